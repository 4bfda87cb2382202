import Derived.Test.YtjebpngdinbckaaPart9
/- ComposeParts: true for every input, and the input stays as it was. -/
namespace Go.Proofs.Ytjebpngdinbckaa
open Go.Dk Go.ChangeShapes Go.WideShapes Go.ChangeAt Go.RowKit
set_option maxRecDepth 100000 in
theorem call34 (W : World) (args : Array Value) (h : ArgsOk Try.prog Try.f34 W args) : Calls Try.prog 34 args W fun e W' => e = .returned (.bool true) ∧ Same W W' := by
  obtain ⟨⟨base, hval⟩, H, enc, ds, ps, hA⟩ := h
  rw [Try.params34] at hA hval
  obtain ⟨v0, vs0, d0, ds0, p0, q0, hargs, rfl, rfl, h0, r0⟩ := trodAll_cons hA
  obtain ⟨v1, vs1, d1, ds1, p1, q1, rfl, rfl, rfl, h1, r1⟩ := trodAll_cons r0
  obtain ⟨v2, vs2, d2, ds2, p2, q2, rfl, rfl, rfl, h2, r2⟩ := trodAll_cons r1
  obtain ⟨v3, vs3, d3, ds3, p3, q3, rfl, rfl, rfl, h3, r3⟩ := trodAll_cons r2
  obtain ⟨rfl, rfl, rfl⟩ := trodAll_nil r3
  obtain rfl : args = #[v0, v1, v2, v3] := by cases args; simp_all
  obtain ⟨a0, k0⟩ := arg_ints (hval 0 32 v0 rfl rfl) h0
  obtain ⟨a1, k1, rfl⟩ := arg_set (hval 1 24 v1 rfl rfl) h1
  obtain ⟨a2, b2, k2, l2, rfl⟩ := arg_cube (hval 2 46 v2 rfl rfl) h2
  obtain ⟨a3, rfl, k3⟩ := arg_u8 Try.underlying5 (hval 3 5 v3 rfl rfl) h3
  exact (law34 v0 a1 k1 a2 b2 k2 l2 a3 k3 W k0).answers
set_option maxRecDepth 100000 in
theorem proved34 : Rows.ComposePartsSaid :=
  OpenClaim.holds_of_wide 34 Try.f34 rfl rfl rfl rfl rfl rfl rfl ⟨rfl, rfl, rfl, rfl, rfl⟩ rfl rfl rfl rfl rfl (by kernel_rfl) Try.func34 (joined_of wide rfl rfl rfl (by kernel_rfl))
    (of_decide_eq_true (by kernel_rfl)) (by unfold Func.isWrapper; first | (rw [if_pos (by decide +kernel)]; kernel_rfl) | (rw [if_neg (by decide +kernel)]; exact ⟨rfl, rfl⟩))
    (fun os started H enc _ => lifted (C := Try.checked) (s := Rows.composePartsSpec) (apart := false) (fresh := true) (handsOn := false) os started ownK (by kernel_rfl) Try.func34 laidOut (by kernel_rfl) rfl Try.underlying4 rfl
      (fun ds hds => by
        match ds, hds with
        | [_, _, _, _], _ => rfl)
      (ChangeSpec.witness6 (enc := enc) (C := Try.checked) false ⟨#[], #[.slice none 0 0, sv 0, cv 0 0, .int .u8 0], []⟩ 8 (by kernel_rfl) (by kernel_rfl) (by kernel_rfl) (by kernel_rfl)) call34)
end Go.Proofs.Ytjebpngdinbckaa

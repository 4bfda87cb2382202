import Derived.Test.YtjebpngdinbckaaPart8
/- SwapGraphs: true for every input, and the input stays as it was. -/
namespace Go.Proofs.Ytjebpngdinbckaa
open Go.Dk Go.ChangeShapes Go.WideShapes Go.ChangeAt Go.RowKit
set_option maxRecDepth 100000 in
theorem call31 (W : World) (args : Array Value) (h : ArgsOk Try.prog Try.f31 W args) : Calls Try.prog 31 args W fun e W' => e = .returned (.bool true) ∧ Same W W' := by
  obtain ⟨⟨base, hval⟩, H, enc, ds, ps, hA⟩ := h
  rw [Try.params31] at hA hval
  obtain ⟨v0, vs0, d0, ds0, p0, q0, hargs, rfl, rfl, h0, r0⟩ := trodAll_cons hA
  obtain ⟨v1, vs1, d1, ds1, p1, q1, rfl, rfl, rfl, h1, r1⟩ := trodAll_cons r0
  obtain ⟨rfl, rfl, rfl⟩ := trodAll_nil r1
  obtain rfl : args = #[v0, v1] := by cases args; simp_all
  obtain ⟨a0, k0, rfl⟩ := arg_set (hval 0 24 v0 rfl rfl) h0
  obtain ⟨a1, k1⟩ := arg_ints (hval 1 32 v1 rfl rfl) h1
  exact (law31 a0 k0 v1 W k1).answers
set_option maxRecDepth 100000 in
theorem proved31 : Rows.SwapGraphsSaid :=
  OpenClaim.holds_of_wide 31 Try.f31 rfl rfl rfl rfl rfl rfl rfl ⟨rfl, rfl, rfl, rfl, rfl⟩ rfl rfl rfl rfl rfl (by kernel_rfl) Try.func31 (joined_of wide rfl rfl rfl (by kernel_rfl))
    (of_decide_eq_true (by kernel_rfl)) (by unfold Func.isWrapper; first | (rw [if_pos (by decide +kernel)]; kernel_rfl) | (rw [if_neg (by decide +kernel)]; exact ⟨rfl, rfl⟩))
    (fun os started H enc _ => lifted (C := Try.checked) (s := Rows.swapGraphsSpec) (apart := false) (fresh := true) (handsOn := false) os started ownK (by kernel_rfl) Try.func31 laidOut (by kernel_rfl) rfl Try.underlying4 rfl
      (fun ds hds => by
        match ds, hds with
        | [_, _], _ => rfl)
      (ChangeSpec.witness6 (enc := enc) (C := Try.checked) false ⟨#[], #[sv 0, .slice none 0 0], []⟩ 8 (by kernel_rfl) (by kernel_rfl) (by kernel_rfl) (by kernel_rfl)) call31)
end Go.Proofs.Ytjebpngdinbckaa

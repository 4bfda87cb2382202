import Derived.Test.YtjebpngdinbckaaPart9
/- SwapFollows: true for every input, and the input stays as it was. -/
namespace Go.Proofs.Ytjebpngdinbckaa
open Go.Dk Go.ChangeShapes Go.WideShapes Go.ChangeAt Go.RowKit
set_option maxRecDepth 100000 in
theorem call30 (W : World) (args : Array Value) (h : ArgsOk Try.prog Try.f30 W args) : Calls Try.prog 30 args W fun e W' => e = .returned (.bool true) ∧ Same W W' := by
  obtain ⟨⟨base, hval⟩, H, enc, ds, ps, hA⟩ := h
  rw [Try.params30] at hA hval
  obtain ⟨v0, vs0, d0, ds0, p0, q0, hargs, rfl, rfl, h0, r0⟩ := trodAll_cons hA
  obtain ⟨v1, vs1, d1, ds1, p1, q1, rfl, rfl, rfl, h1, r1⟩ := trodAll_cons r0
  obtain ⟨rfl, rfl, rfl⟩ := trodAll_nil r1
  obtain rfl : args = #[v0, v1] := by cases args; simp_all
  obtain ⟨vo0, vn0, a0, o0, N0, _, k0, l0, rfl⟩ := arg_graph (hval 0 148 v0 rfl rfl) h0
  obtain ⟨a1, k1⟩ := arg_ints (hval 1 32 v1 rfl rfl) h1
  exact (law30 vo0 vn0 a0 v1 W k0 l0 k1).answers
set_option maxRecDepth 100000 in
theorem proved30 : Rows.SwapFollowsSaid :=
  OpenClaim.holds_of_wide 30 Try.f30 rfl rfl rfl rfl rfl rfl rfl ⟨rfl, rfl, rfl, rfl, rfl⟩ rfl rfl rfl rfl rfl (by kernel_rfl) Try.func30 (joined_of wide rfl rfl rfl (by kernel_rfl))
    (of_decide_eq_true (by kernel_rfl)) (by unfold Func.isWrapper; first | (rw [if_pos (by decide +kernel)]; kernel_rfl) | (rw [if_neg (by decide +kernel)]; exact ⟨rfl, rfl⟩))
    (fun os started H enc _ => lifted (C := Try.checked) (s := Rows.swapFollowsSpec) (apart := false) (fresh := true) (handsOn := false) os started ownK (by kernel_rfl) Try.func30 laidOut (by kernel_rfl) rfl Try.underlying4 rfl
      (fun ds hds => by
        match ds, hds with
        | [_, _], _ => rfl)
      (ChangeSpec.witness6 (enc := enc) (C := Try.checked) false ⟨#[], #[grV (.slice none 0 0) (.slice none 0 0) 0, .slice none 0 0], []⟩ 8 (by kernel_rfl) (by kernel_rfl) (by kernel_rfl) (by kernel_rfl)) call30)
end Go.Proofs.Ytjebpngdinbckaa

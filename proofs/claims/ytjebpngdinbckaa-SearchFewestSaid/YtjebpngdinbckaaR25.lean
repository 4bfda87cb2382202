import Derived.Test.YtjebpngdinbckaaPart8
/- SearchFewest: true for every input, and the input stays as it was. -/
namespace Go.Proofs.Ytjebpngdinbckaa
open Go.Dk Go.ChangeShapes Go.WideShapes Go.ChangeAt Go.RowKit
set_option maxRecDepth 100000 in
theorem call25 (W : World) (args : Array Value) (h : ArgsOk Try.prog Try.f25 W args) : Calls Try.prog 25 args W fun e W' => e = .returned (.bool true) ∧ Same W W' := by
  obtain ⟨⟨base, hval⟩, H, enc, ds, ps, hA⟩ := h
  rw [Try.params25] at hA hval
  obtain ⟨v0, vs0, d0, ds0, p0, q0, hargs, rfl, rfl, h0, r0⟩ := trodAll_cons hA
  obtain ⟨rfl, rfl, rfl⟩ := trodAll_nil r0
  obtain rfl : args = #[v0] := by cases args; simp_all
  obtain ⟨a0, u0, b0, l0, k0, rfl⟩ := arg_mat (hval 0 91 v0 rfl rfl) h0
  exact (law25 a0 b0 u0 W k0).answers
set_option maxRecDepth 100000 in
theorem proved25 : Rows.SearchFewestSaid :=
  OpenClaim.holds_of_wide 25 Try.f25 rfl rfl rfl rfl rfl rfl rfl ⟨rfl, rfl, rfl, rfl, rfl⟩ rfl rfl rfl rfl rfl (by kernel_rfl) Try.func25 (joined_of wide rfl rfl rfl (by kernel_rfl))
    (of_decide_eq_true (by kernel_rfl)) (by unfold Func.isWrapper; first | (rw [if_pos (by decide +kernel)]; kernel_rfl) | (rw [if_neg (by decide +kernel)]; exact ⟨rfl, rfl⟩))
    (fun os started H enc _ => lifted (C := Try.checked) (s := Rows.searchFewestSpec) (apart := false) (fresh := true) (handsOn := false) os started ownK (by kernel_rfl) Try.func25 laidOut (by kernel_rfl) rfl Try.underlying4 rfl
      (fun ds hds => by
        match ds, hds with
        | [_], _ => rfl)
      (ChangeSpec.witness6 (enc := enc) (C := Try.checked) false ⟨#[], #[mv 0 (.slice none 0 0)], []⟩ 8 (by kernel_rfl) (by kernel_rfl) (by kernel_rfl) (by kernel_rfl)) call25)
end Go.Proofs.Ytjebpngdinbckaa

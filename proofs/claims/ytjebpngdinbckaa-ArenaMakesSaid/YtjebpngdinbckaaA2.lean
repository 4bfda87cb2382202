import Derived.Test.YtjebpngdinbckaaA
import Derived.Test.YtjebpngdinbckaaQ
import Derived.ChangeMaps5
import Derived.ChangeSame
/- More arguments of laws, opened: cubes and texts. -/
namespace Go.Proofs.Ytjebpngdinbckaa
open Go.Dk Go.ChangeShapes Go.WideShapes Go.ChangeAt Go.RowKit Go.ChangeMaps
section
variable {H : Type} {enc : TypeId × Value → H} {w : World} {base b : Nat} {spare : Nat → Bool} {held : Bool}
theorem byte_at {fuel : Nat} {c : Value} {x : DataW H × List MemPlace} (h : DataW.trod enc Try.prog w base spare held fuel 5 [c] = some x) : ∃ n : Nat, c = .int .u8 n ∧ n < 256 := by
  obtain ⟨m, hc, rfl, hw⟩ := DataW.trod_int Try.underlying5 h
  simp [Lit.wf, IntKind.min, IntKind.max, IntKind.signed, IntKind.bits] at hw
  obtain ⟨n, rfl⟩ := Int.eq_ofNat_of_zero_le hw.1
  simp at hc
  exact ⟨n, hc, by omega⟩
set_option maxRecDepth 100000 in
theorem cube_at {fuel : Nat} {cs : List Value} {x : DataW H × List MemPlace} (h : DataW.trod enc Try.prog w base spare held fuel 46 cs = some x) : ∃ m s : Nat, m < 256 ∧ s < 256 ∧ cs = (cc m s).toList := by
  obtain ⟨y0, y1, n, _, hl, h0, h1⟩ := trod_struct2 Try.underlying46 h
  have h2 : Try.prog.cellsOf 46 = 2 := by kernel_rfl
  have h5 : Try.prog.cellsOf 5 = 1 := by kernel_rfl
  rw [h2] at hl
  rw [h5] at h0 h1
  match cs, hl, h0, h1 with
  | [c0, c1], _, h0, h1 =>
    obtain ⟨m, rfl, hm⟩ := byte_at h0
    obtain ⟨s, rfl, hs⟩ := byte_at h1
    exact ⟨m, s, hm, hs, rfl⟩
set_option maxRecDepth 100000 in
theorem arg_cube {v : Value} {d : DataW H} {ps : List MemPlace} (hval : Value.okWide Try.prog w .any b 46 v) (h : DataW.Trod enc Try.prog w base spare held 46 v d ps) : ∃ m s, m < 256 ∧ s < 256 ∧ v = cv m s := by
  unfold Value.okWide at hval
  rw [Try.underlying46] at hval
  obtain ⟨cs, rfl, hsz, _⟩ := hval
  obtain ⟨fuel, hf⟩ := h
  obtain ⟨m, s, hm, hs, he⟩ := cube_at hf
  refine ⟨m, s, hm, hs, ?_⟩
  have he' : cs.toList = (cc m s).toList := he
  have : cs = cc m s := Array.toList_inj.1 he'
  rw [this]; rfl
set_option maxRecDepth 100000 in
theorem arg_str {v : Value} {d : DataW H} {ps : List MemPlace} (hval : Value.okWide Try.prog w .any b 9 v) (h : DataW.Trod enc Try.prog w base spare held 9 v d ps) : ∃ l : List UInt8, l.length < 9223372036854775808 ∧ v = strV l := by
  obtain ⟨s, rfl, _, _, hs⟩ := open_string Try.underlying9 hval h
  refine ⟨s.data.toList, ?_, ?_⟩
  · have : s.size = s.data.toList.length := rfl
    unfold maxLen at hs
    omega
  · unfold strV; simp
end
end Go.Proofs.Ytjebpngdinbckaa

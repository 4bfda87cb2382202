import Derived.Test.YtjebpngdinbckaaC
import Derived.Test.YtjebpngdinbckaaS
/- The arguments of a law, opened. -/
namespace Go.Dk
open Go.ChangeShapes Go.WideShapes Go.ChangeAt Go.RowKit
section
variable {H : Type} {enc : TypeId × Value → H} {P : Program} {w : World} {base b : Nat} {spare : Nat → Bool} {held : Bool} {t : TypeId}
theorem arg_int (ht : P.underlying t = some (.int .i64)) {v : Value} {d : DataW H} {ps : List MemPlace} (hval : Value.okWide P w .any b t v) (h : DataW.Trod enc P w base spare held t v d ps) :
    ∃ n, v = .int .i64 n ∧ -9223372036854775808 ≤ n ∧ n < 9223372036854775808 := by
  obtain ⟨n, rfl, _, _, hw⟩ := open_int ht hval h
  refine ⟨n, rfl, ?_⟩
  simp [Lit.wf, IntKind.min, IntKind.max, IntKind.signed, IntKind.bits] at hw
  omega
theorem arg_u8 (ht : P.underlying t = some (.int .u8)) {v : Value} {d : DataW H} {ps : List MemPlace} (hval : Value.okWide P w .any b t v) (h : DataW.Trod enc P w base spare held t v d ps) :
    ∃ n : Nat, v = .int .u8 n ∧ n < 256 := by
  obtain ⟨n, rfl, _, _, hw⟩ := open_int ht hval h
  simp [Lit.wf, IntKind.min, IntKind.max, IntKind.signed, IntKind.bits] at hw
  obtain ⟨m, rfl⟩ := Int.eq_ofNat_of_zero_le hw.1
  exact ⟨m, rfl, by omega⟩
theorem arg_bool (ht : P.underlying t = some .bool) {v : Value} {d : DataW H} {ps : List MemPlace} (hval : Value.okWide P w .any b t v) (h : DataW.Trod enc P w base spare held t v d ps) :
    ∃ b, v = .bool b := by
  obtain ⟨b, rfl, _⟩ := open_bool ht hval h
  exact ⟨b, rfl⟩
theorem word_at (ht : P.underlying t = some (.int .u64)) {fuel : Nat} {c : Value} {x : DataW H × List MemPlace} (h : DataW.trod enc P w base spare held fuel t [c] = some x) : ∃ n : Nat, c = .int .u64 n ∧ n < 2 ^ 64 := by
  obtain ⟨m, hc, rfl, hw⟩ := DataW.trod_int ht h
  simp [Lit.wf, IntKind.min, IntKind.max, IntKind.signed, IntKind.bits] at hw
  obtain ⟨n, rfl⟩ := Int.eq_ofNat_of_zero_le hw.1
  simp at hc
  exact ⟨n, hc, by omega⟩
theorem arg_words {e : TypeId} (ht : P.underlying t = some (.array 4 e)) (he : P.underlying e = some (.int .u64)) (h4 : P.cellsOf t = 4) (h1 : P.cellsOf e = 1) {v : Value} {d : DataW H} {ps : List MemPlace} (hval : Value.okWide P w .any b t v) (h : DataW.Trod enc P w base spare held t v d ps) :
    ∃ n0 n1 n2 n3 : Nat, v = .agg #[.int .u64 n0, .int .u64 n1, .int .u64 n2, .int .u64 n3] ∧ n0 < 2 ^ 64 ∧ n1 < 2 ^ 64 ∧ n2 < 2 ^ 64 ∧ n3 < 2 ^ 64 := by
  unfold Value.okWide at hval
  rw [ht] at hval
  obtain ⟨⟨cs⟩, rfl, hsz, _⟩ := hval
  obtain ⟨fuel, hf⟩ := h
  rw [h4] at hsz
  match cs, hsz, hf with
  | [c0, c1, c2, c3], _, hf =>
    obtain ⟨y0, y1, y2, y3, n, _, k0, k1, k2, k3⟩ := trod_array4 ht h1 (by simpa [Value.cells] using hf)
    obtain ⟨n0, rfl, l0⟩ := word_at he k0
    obtain ⟨n1, rfl, l1⟩ := word_at he k1
    obtain ⟨n2, rfl, l2⟩ := word_at he k2
    obtain ⟨n3, rfl, l3⟩ := word_at he k3
    exact ⟨n0, n1, n2, n3, rfl, l0, l1, l2, l3⟩
end
end Go.Dk
namespace Go.Proofs.Ytjebpngdinbckaa
open Go.Dk Go.ChangeShapes Go.WideShapes Go.ChangeAt Go.RowKit
/-- Four words make a set. -/
theorem sv_of {a b c d : Nat} (ha : a < 2 ^ 64) (hb : b < 2 ^ 64) (hc : c < 2 ^ 64) (hd : d < 2 ^ 64) :
    ∃ n, n < 2 ^ 256 ∧ Value.agg #[.int .u64 (a : Int), .int .u64 (b : Int), .int .u64 (c : Int), .int .u64 (d : Int)] = sv n := by
  have h1 : a + 2 ^ 64 * (b + 2 ^ 64 * (c + 2 ^ 64 * d)) < 2 ^ 256 := by omega
  refine ⟨_, h1, ?_⟩
  have w0 : word (a + 2 ^ 64 * (b + 2 ^ 64 * (c + 2 ^ 64 * d))) 0 = a := by unfold word; omega
  have w1 : word (a + 2 ^ 64 * (b + 2 ^ 64 * (c + 2 ^ 64 * d))) 1 = b := by unfold word; omega
  have w2 : word (a + 2 ^ 64 * (b + 2 ^ 64 * (c + 2 ^ 64 * d))) 2 = c := by unfold word; omega
  have w3 : word (a + 2 ^ 64 * (b + 2 ^ 64 * (c + 2 ^ 64 * d))) 3 = d := by unfold word; omega
  unfold sv sc
  rw [w0, w1, w2, w3]
section
variable {H : Type} {enc : TypeId × Value → H} {w : World} {base b : Nat} {spare : Nat → Bool} {held : Bool}
set_option maxRecDepth 100000 in
theorem arg_set {v : Value} {d : DataW H} {ps : List MemPlace} (hval : Value.okWide Try.prog w .any b 24 v) (h : DataW.Trod enc Try.prog w base spare held 24 v d ps) : ∃ n, n < 2 ^ 256 ∧ v = sv n := by
  obtain ⟨n0, n1, n2, n3, rfl, h0, h1, h2, h3⟩ := arg_words Try.underlying24 Try.underlying22 (by kernel_rfl) (by kernel_rfl) hval h
  obtain ⟨n, hn, he⟩ := sv_of h0 h1 h2 h3
  exact ⟨n, hn, he⟩
end
theorem laidOut : laidOutB Try.prog = true := by kernel_rfl
/-! ### The program's order word, taken apart: only its first words are looked at -/
def ordSp : Char := Char.ofNat 32
def ordA : List Char := List.map Char.ofNat [104, 97, 114, 110, 101, 115, 115]
def ordB : List Char := List.map Char.ofNat [
  102, 57, 52, 50, 52, 52, 100, 49, 56, 51, 52, 57, 51, 52, 101, 49, 48, 56, 98, 100, 48, 54, 50, 101, 52, 100, 98, 98, 48, 52, 57, 101, 49, 97, 49, 55, 100, 101, 48, 102, 97, 49,
  48, 55, 53, 98, 51, 99, 48, 98, 54, 100, 100, 57, 52, 54, 57, 100, 51, 97, 53, 53, 51, 51]
def ordC : List Char := List.map Char.ofNat [99, 117, 116]
def ordRest : List Char := List.map Char.ofNat [
  97, 116, 32, 100, 114, 97, 119, 107, 110, 105, 102, 101, 47, 100, 114, 97, 119, 107, 110, 105, 102, 101, 108, 97, 119, 48, 49, 46, 83, 101, 116, 80, 111, 105, 110, 116, 115, 32,
  100, 114, 97, 119, 107, 110, 105, 102, 101, 47, 100, 114, 97, 119, 107, 110, 105, 102, 101, 108, 97, 119, 48, 49, 46, 83, 101, 116, 72, 97, 108, 118, 101, 115, 32, 100, 114, 97,
  119, 107, 110, 105, 102, 101, 47, 100, 114, 97, 119, 107, 110, 105, 102, 101, 108, 97, 119, 48, 49, 46, 83, 101, 116, 66, 111, 116, 104, 32, 100, 114, 97, 119, 107, 110, 105, 102,
  101, 47, 100, 114, 97, 119, 107, 110, 105, 102, 101, 108, 97, 119, 48, 49, 46, 83, 101, 116, 80, 97, 114, 116, 115, 32, 100, 114, 97, 119, 107, 110, 105, 102, 101, 47, 100, 114,
  97, 119, 107, 110, 105, 102, 101, 108, 97, 119, 48, 50, 46, 67, 117, 98, 101, 80, 111, 105, 110, 116, 115, 32, 100, 114, 97, 119, 107, 110, 105, 102, 101, 47, 100, 114, 97, 119,
  107, 110, 105, 102, 101, 108, 97, 119, 48, 50, 46, 67, 117, 98, 101, 80, 97, 114, 115, 101, 115, 32, 100, 114, 97, 119, 107, 110, 105, 102, 101, 47, 100, 114, 97, 119, 107, 110,
  105, 102, 101, 108, 97, 119, 48, 53, 46, 65, 114, 101, 110, 97, 77, 97, 107, 101, 115, 32, 100, 114, 97, 119, 107, 110, 105, 102, 101, 47, 100, 114, 97, 119, 107, 110, 105, 102,
  101, 108, 97, 119, 48, 53, 46, 65, 114, 101, 110, 97, 75, 101, 101, 112, 115, 32, 100, 114, 97, 119, 107, 110, 105, 102, 101, 47, 100, 114, 97, 119, 107, 110, 105, 102, 101, 108,
  97, 119, 48, 53, 46, 65, 114, 101, 110, 97, 78, 105, 108, 32, 100, 114, 97, 119, 107, 110, 105, 102, 101, 47, 100, 114, 97, 119, 107, 110, 105, 102, 101, 108, 97, 119, 48, 50, 46,
  67, 117, 98, 101, 83, 101, 116, 115, 32, 100, 114, 97, 119, 107, 110, 105, 102, 101, 47, 100, 114, 97, 119, 107, 110, 105, 102, 101, 108, 97, 119, 49, 52, 46, 82, 101, 100, 117,
  99, 101, 83, 116, 101, 112, 115, 32, 100, 114, 97, 119, 107, 110, 105, 102, 101, 47, 100, 114, 97, 119, 107, 110, 105, 102, 101, 108, 97, 119, 49, 52, 46, 82, 101, 100, 117, 99,
  101, 65, 108, 108, 32, 100, 114, 97, 119, 107, 110, 105, 102, 101, 47, 100, 114, 97, 119, 107, 110, 105, 102, 101, 108, 97, 119, 49, 52, 46, 82, 101, 100, 117, 99, 101, 66, 101,
  115, 116, 32, 100, 114, 97, 119, 107, 110, 105, 102, 101, 47, 100, 114, 97, 119, 107, 110, 105, 102, 101, 108, 97, 119, 49, 52, 46, 82, 101, 100, 117, 99, 101, 83, 111, 108, 118,
  101, 115, 32, 100, 114, 97, 119, 107, 110, 105, 102, 101, 47, 100, 114, 97, 119, 107, 110, 105, 102, 101, 108, 97, 119, 48, 55, 46, 79, 114, 100, 101, 114, 83, 105, 122, 101, 115,
  32, 100, 114, 97, 119, 107, 110, 105, 102, 101, 47, 100, 114, 97, 119, 107, 110, 105, 102, 101, 108, 97, 119, 48, 55, 46, 79, 114, 100, 101, 114, 77, 111, 118, 101, 115, 32, 100,
  114, 97, 119, 107, 110, 105, 102, 101, 47, 100, 114, 97, 119, 107, 110, 105, 102, 101, 108, 97, 119, 48, 55, 46, 79, 114, 100, 101, 114, 83, 105, 102, 116, 115, 32, 100, 114, 97,
  119, 107, 110, 105, 102, 101, 47, 100, 114, 97, 119, 107, 110, 105, 102, 101, 108, 97, 119, 48, 55, 46, 79, 114, 100, 101, 114, 83, 104, 114, 105, 110, 107, 115, 32, 100, 114, 97,
  119, 107, 110, 105, 102, 101, 47, 100, 114, 97, 119, 107, 110, 105, 102, 101, 108, 97, 119, 48, 54, 46, 66, 100, 100, 83, 101, 116, 115, 32, 100, 114, 97, 119, 107, 110, 105, 102,
  101, 47, 100, 114, 97, 119, 107, 110, 105, 102, 101, 108, 97, 119, 48, 54, 46, 66, 100, 100, 82, 111, 111, 109, 32, 100, 114, 97, 119, 107, 110, 105, 102, 101, 47, 100, 114, 97,
  119, 107, 110, 105, 102, 101, 108, 97, 119, 48, 54, 46, 66, 100, 100, 79, 110, 101, 32, 100, 114, 97, 119, 107, 110, 105, 102, 101, 47, 100, 114, 97, 119, 107, 110, 105, 102, 101,
  108, 97, 119, 49, 53, 46, 83, 101, 97, 114, 99, 104, 66, 111, 117, 110, 100, 115, 32, 100, 114, 97, 119, 107, 110, 105, 102, 101, 47, 100, 114, 97, 119, 107, 110, 105, 102, 101,
  108, 97, 119, 49, 53, 46, 83, 101, 97, 114, 99, 104, 70, 101, 119, 101, 115, 116, 32, 100, 114, 97, 119, 107, 110, 105, 102, 101, 47, 100, 114, 97, 119, 107, 110, 105, 102, 101,
  108, 97, 119, 49, 53, 46, 83, 101, 97, 114, 99, 104, 78, 111, 110, 101, 32, 100, 114, 97, 119, 107, 110, 105, 102, 101, 47, 100, 114, 97, 119, 107, 110, 105, 102, 101, 108, 97,
  119, 48, 54, 46, 66, 100, 100, 68, 111, 101, 115, 32, 100, 114, 97, 119, 107, 110, 105, 102, 101, 47, 100, 114, 97, 119, 107, 110, 105, 102, 101, 108, 97, 119, 50, 49, 46, 83, 119,
  97, 112, 83, 116, 101, 112, 115, 32, 100, 114, 97, 119, 107, 110, 105, 102, 101, 47, 100, 114, 97, 119, 107, 110, 105, 102, 101, 108, 97, 119, 50, 49, 46, 83, 119, 97, 112, 79,
  110, 101, 32, 100, 114, 97, 119, 107, 110, 105, 102, 101, 47, 100, 114, 97, 119, 107, 110, 105, 102, 101, 108, 97, 119, 50, 49, 46, 83, 119, 97, 112, 70, 111, 108, 108, 111, 119,
  115, 32, 100, 114, 97, 119, 107, 110, 105, 102, 101, 47, 100, 114, 97, 119, 107, 110, 105, 102, 101, 108, 97, 119, 50, 49, 46, 83, 119, 97, 112, 71, 114, 97, 112, 104, 115, 32,
  100, 114, 97, 119, 107, 110, 105, 102, 101, 47, 100, 114, 97, 119, 107, 110, 105, 102, 101, 108, 97, 119, 50, 49, 46, 83, 119, 97, 112, 82, 105, 103, 104, 116, 115, 32, 100, 114,
  97, 119, 107, 110, 105, 102, 101, 47, 100, 114, 97, 119, 107, 110, 105, 102, 101, 108, 97, 119, 49, 57, 46, 67, 111, 109, 112, 111, 115, 101, 70, 105, 120, 101, 115, 32, 100, 114,
  97, 119, 107, 110, 105, 102, 101, 47, 100, 114, 97, 119, 107, 110, 105, 102, 101, 108, 97, 119, 49, 57, 46, 67, 111, 109, 112, 111, 115, 101, 80, 97, 114, 116, 115, 32, 100, 114,
  97, 119, 107, 110, 105, 102, 101, 47, 100, 114, 97, 119, 107, 110, 105, 102, 101, 108, 97, 119, 49, 57, 46, 67, 111, 109, 112, 111, 115, 101, 67, 111, 117, 110, 116, 115, 32, 100,
  114, 97, 119, 107, 110, 105, 102, 101, 47, 100, 114, 97, 119, 107, 110, 105, 102, 101, 108, 97, 119, 49, 57, 46, 67, 111, 109, 112, 111, 115, 101, 82, 101, 102, 117, 115, 101, 115]
def ordSigns : List Char := ordA ++ ordSp :: (ordB ++ ordSp :: (ordC ++ ordSp :: ordRest))
theorem ordWord : Try.prog.initOrder = String.ofList ordSigns := by kernel_rfl
theorem ordList : Try.prog.initOrder.toList = ordSigns := (congrArg String.toList ordWord).trans String.toList_ofList
theorem words_sp (r : List Char) : wordsSigns (ordSp :: r) = [] :: wordsSigns r := rfl
theorem words_word : ∀ (a r : List Char), (a.all fun c => c != ordSp) = true → wordsSigns (a ++ ordSp :: r) = a :: wordsSigns r := by
  intro a
  induction a with
  | nil => intro r _; exact words_sp r
  | cons c a ih =>
    intro r h
    rw [List.all_cons, Bool.and_eq_true, bne_iff_ne] at h
    have hc : c ≠ Char.ofNat 32 := h.1
    rw [List.cons_append, wordsSigns, ih r h.2]
    exact hc
theorem ordWords : wordsSigns Try.prog.initOrder.toList = ordA :: ordB :: ordC :: wordsSigns ordRest := by
  rw [ordList]
  unfold ordSigns
  rw [words_word _ _ (by kernel_rfl), words_word _ _ (by kernel_rfl), words_word _ _ (by kernel_rfl)]
theorem make_cut {P : Program} {c : List Char} {R : List (List Char)} (h : behindMainWord (wordsSigns P.initOrder.toList) = c :: R) (h1 : (c == "gc".toList) = false) (h2 : (c == "spec".toList) = false) (h3 : (c == "cut".toList) = true) : P.make = some .cut := by
  unfold Program.make
  rw [h]
  simp only [h1, h2, h3, Bool.or_self, Bool.true_or, if_true, Bool.false_eq_true, if_false]
theorem lifts_cut {P : Program} {c : List Char} {R : List (List Char)} (h : behindMainWord (wordsSigns P.initOrder.toList) = c :: R) (h1 : stripLifts liftWords (c :: R) = ([], c :: R)) : P.headLifts = [] := by
  unfold Program.headLifts
  rw [h, h1]
  simp
theorem final_cut {P : Program} {c : List Char} {R : List (List Char)} (h : behindMainWord (wordsSigns P.initOrder.toList) = c :: R) (h1 : P.headLifts = []) (h2 : (c == "carried".toList) = false) : P.liftsFinal = false := by
  unfold Program.liftsFinal
  rw [h1, h]
  simp only [List.head?_cons, Option.some_beq_some, h2, Bool.false_and, Bool.false_or]
  rfl
theorem enter_cut {P : Program} {c : List Char} {R : List (List Char)} (h : behindMainWord (wordsSigns P.initOrder.toList) = c :: R) (h1 : stripLifts liftWords (c :: R) = ([], c :: R)) (h3 : (c == "cut".toList) = true)
    (k1 : P.laysLater = false) (k2 : P.bearsReflect = false) (k3 : P.doorFits [] = true) : P.mayEnter = true := by
  unfold Program.mayEnter
  rw [h]
  simp only [h1, k1, k2, k3, List.head?_cons, Option.some_beq_some, h3, Bool.not_false, Bool.or_true, Bool.and_self, List.contains_nil]
theorem behindMain (R : List (List Char)) : behindMainWord (ordA :: ordB :: ordC :: R) = ordC :: R := by kernel_rfl
theorem behind : behindMainWord (wordsSigns Try.prog.initOrder.toList) = ordC :: wordsSigns ordRest := (congrArg behindMainWord ordWords).trans (behindMain _)
theorem strip (R : List (List Char)) : stripLifts liftWords (ordC :: R) = ([], ordC :: R) := by kernel_rfl
theorem headLifts : Try.prog.headLifts = [] := lifts_cut behind (strip _)
theorem mayEnter : Try.prog.mayEnter = true := enter_cut behind (strip _) (by kernel_rfl) (by kernel_rfl) (by kernel_rfl) (by kernel_rfl)
theorem liftsFinal : Try.prog.liftsFinal = false := final_cut behind headLifts (by kernel_rfl)
theorem makeIs : Try.prog.make = some .cut := make_cut behind (by kernel_rfl) (by kernel_rfl) (by kernel_rfl)
theorem wide_of {P : Program} {c : OpenClaim} (h1 : laidOutB P = true) (h2 : mapsRowed P = true) (h3 : (P.stops == []) = true) (h4 : (P.stopKnobs == []) = true) (h5 : (c.plainKeys == P.plainKeys) = true) (h6 : P.stopsHeard = true) (h7 : P.mayEnter = true)
    (h8 : P.liftsFinal = false) (h9 : P.make = some .cut) (e1 : c.lifted = false) (e2 : c.make = .cut) : wideFacts P c = true := by
  unfold wideFacts
  rw [h1, h2, h3, h4, h5, h6, h7, h8, h9, e1, e2]
  rfl
theorem wide : wideFacts Try.prog Rows.setPointsRow = true :=
  wide_of laidOut (by kernel_rfl) (by kernel_rfl) (by kernel_rfl) (by kernel_rfl) (by kernel_rfl) mayEnter liftsFinal makeIs rfl rfl
theorem ownK : ownKnob Try.prog.godebug = none := by kernel_rfl
end Go.Proofs.Ytjebpngdinbckaa

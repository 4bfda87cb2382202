import Derived.Test.YtjebpngdinbckaaB
/- Cubes: plain lemmas, nothing of Go. -/
namespace Go.Dk

theorem testBit_hi8 {n i : Nat} (hn : n < 256) (hi : 8 ≤ i) : n.testBit i = false :=
  Nat.testBit_lt_two_pow (Nat.lt_of_lt_of_le hn (show 2 ^ 8 ≤ 2 ^ i from Nat.pow_le_pow_right (by decide) hi))
theorem ext8 {a b : Nat} (ha : a < 256) (hb : b < 256) (h : ∀ i, i < 8 → a.testBit i = b.testBit i) : a = b := by
  apply Nat.eq_of_testBit_eq; intro i
  by_cases hi : i < 8
  · exact h i hi
  · rw [testBit_hi8 ha (by omega), testBit_hi8 hb (by omega)]
theorem testBit_not8 {m : Nat} (hm : m < 256) (i : Nat) : (255 - m).testBit i = (decide (i < 8) && !m.testBit i) := by
  have e : 255 - m = 2 ^ 8 - (m + 1) := by omega
  rw [e, Nat.testBit_two_pow_sub_succ (by omega)]
theorem and_lt8 {a : Nat} (ha : a < 256) (b : Nat) : a &&& b < 256 := Nat.lt_of_le_of_lt Nat.and_le_left ha
theorem and_lt8' (a : Nat) {b : Nat} (hb : b < 256) : a &&& b < 256 := Nat.lt_of_le_of_lt Nat.and_le_right hb
theorem or_lt8 {a b : Nat} (ha : a < 256) (hb : b < 256) : a ||| b < 256 := Nat.or_lt_two_pow (n := 8) ha hb
theorem xor_lt8 {a b : Nat} (ha : a < 256) (hb : b < 256) : a ^^^ b < 256 := Nat.xor_lt_two_pow (n := 8) ha hb
theorem zero_iff8 {a : Nat} (ha : a < 256) : a = 0 ↔ ∀ i, i < 8 → a.testBit i = false := by
  constructor
  · rintro rfl i _; simp
  · intro h; exact ext8 ha (by decide) fun i hi => by rw [h i hi]; simp
/-- The signs lie within the mask. -/
theorem sub_iff {m v : Nat} (hm : m < 256) (hv : v < 256) : v &&& (255 - m) = 0 ↔ v &&& m = v := by
  rw [zero_iff8 (and_lt8 hv _)]
  constructor
  · intro h
    refine ext8 (and_lt8 hv _) hv fun i hi => ?_
    have := h i hi
    rw [Nat.testBit_and, testBit_not8 hm] at this
    rw [Nat.testBit_and]
    simp [hi] at this
    cases hvi : v.testBit i <;> simp_all
  · intro h i hi
    have := congrArg (·.testBit i) h
    simp only [Nat.testBit_and] at this
    rw [Nat.testBit_and, testBit_not8 hm]
    cases hvi : v.testBit i <;> simp_all
theorem mkSet8 {m : Nat} (hm : m < 256) (f : Nat → Bool) (h : ∀ i, i < 8 → f i = m.testBit i) : mkSet f 8 = m := by
  refine ext8 (mkSet_lt f 8) hm fun i hi => ?_
  rw [testBit_mkSet]; simp [hi, h i hi]
theorem mkSet_congr {f g : Nat → Bool} {k : Nat} (h : ∀ i, i < k → f i = g i) : mkSet f k = mkSet g k := by
  induction k with
  | zero => rfl
  | succ k ih => rw [mkSet, mkSet, ih fun i hi => h i (by omega), h k (by omega)]
theorem mkSet_le8 (f : Nat → Bool) {k : Nat} (hk : k ≤ 8) : mkSet f k < 256 := Nat.lt_of_lt_of_le (mkSet_lt f k) (show 2 ^ k ≤ 2 ^ 8 from Nat.pow_le_pow_right (by decide) hk)
theorem lt_pow_of_bits {m n : Nat} (hm : m < 256) (h : ∀ i, n ≤ i → i < 8 → m.testBit i = false) : m < 2 ^ n := by
  refine Nat.lt_pow_two_of_testBit m fun i hi => ?_
  by_cases h8 : i < 8
  · exact h i hi h8
  · exact testBit_hi8 hm (by omega)
theorem bits_of_lt_pow {m n i : Nat} (h : m < 2 ^ n) (hi : n ≤ i) : m.testBit i = false :=
  Nat.testBit_lt_two_pow (Nat.lt_of_lt_of_le h (Nat.pow_le_pow_right (by decide) hi))

/-! ### Literals -/
def litN (m v i : Nat) : Nat := if m.testBit i then (if v.testBit i then 1 else 0) else 2
def litsTo (m v k : Nat) : List Nat := (List.range k).map (litN m v)
abbrev lits (m v : Nat) : List Nat := litsTo m v 8
theorem litsTo_length (m v k : Nat) : (litsTo m v k).length = k := by simp [litsTo]
theorem litsTo_succ (m v k : Nat) : litsTo m v (k + 1) = litsTo m v k ++ [litN m v k] := by simp [litsTo, List.range_succ]
theorem lits_get {m v i : Nat} (hi : i < 8) : (lits m v)[i]? = some (litN m v i) := by simp [litsTo, hi]
theorem litN_le (m v i : Nat) : litN m v i ≤ 2 := by unfold litN; split <;> (try split) <;> omega
theorem litN_two {m v i : Nat} : litN m v i = 2 ↔ m.testBit i = false := by unfold litN; cases m.testBit i <;> simp; split <;> omega
def cubeM (l : List Nat) : Nat := mkSet (fun i => decide (l.getD i 2 < 2)) l.length
def cubeV (l : List Nat) : Nat := mkSet (fun i => decide (l.getD i 2 = 1)) l.length
theorem cubeM_lits {m : Nat} (hm : m < 256) (v : Nat) : cubeM (lits m v) = m := by
  unfold cubeM
  rw [litsTo_length]
  refine mkSet8 hm _ fun i hi => ?_
  rw [List.getD_eq_getElem?_getD, lits_get hi]
  unfold litN
  cases m.testBit i <;> cases v.testBit i <;> simp
theorem cubeV_lits {m v : Nat} (hm : m < 256) (hv : v < 256) : cubeV (lits m v) = v &&& m := by
  unfold cubeV
  rw [litsTo_length]
  refine mkSet8 (and_lt8 hv _) _ fun i hi => ?_
  rw [List.getD_eq_getElem?_getD, lits_get hi, Nat.testBit_and]
  unfold litN
  cases m.testBit i <;> cases v.testBit i <;> simp

/-! ### Which cubes are right, and their points -/
def rightN (m v : Nat) (n : Int) : Bool := decide (0 ≤ n) && (decide (n ≤ 8) && (decide (m < 2 ^ n.toNat) && (v &&& (255 - m) == 0)))
theorem rightN_iff {m v : Nat} {n : Int} (hm : m < 256) (hv : v < 256) : rightN m v n = true ↔ 0 ≤ n ∧ n ≤ 8 ∧ m < 2 ^ n.toNat ∧ v &&& m = v := by
  unfold rightN
  simp only [Bool.and_eq_true, decide_eq_true_eq, beq_iff_eq, sub_iff hm hv]
def cubeP (m v n : Nat) : Nat := setOf fun p => decide (p < 2 ^ n) && (p &&& m == v)
theorem cubeP_lt (m v n : Nat) : cubeP m v n < 2 ^ 256 := setOf_lt _
theorem cubeP_eq (m v : Nat) {n : Nat} (hn : n ≤ 8) : cubeP m v n = orAll ((List.range (2 ^ n)).filter fun p => p &&& m == v) := by
  have h2 : 2 ^ n ≤ 2 ^ 8 := Nat.pow_le_pow_right (by decide) hn
  refine set_ext (setOf_lt _) (orAll_lt (fun p hp => by have := List.mem_range.1 (List.mem_filter.1 hp).1; omega)) fun p hp => ?_
  rw [testBit_orAll, cubeP, testBit_setOf, Bool.eq_iff_iff]
  simp [hp]
/-- Has a cube a point? -/
def hasC (m v p : Nat) : Bool := (List.range 8).all fun i => !m.testBit i || (v.testBit i == p.testBit i)
theorem hasC_eq {m v p : Nat} (hm : m < 256) (hv : v &&& m = v) : hasC m v p = (p &&& m == v) := by
  rw [Bool.eq_iff_iff, hasC, List.all_eq_true, beq_iff_eq]
  have hlt : v < 256 := by rw [← hv]; exact and_lt8' v hm
  constructor
  · intro h
    rw [← hv]
    refine ext8 (and_lt8' p hm) (and_lt8' v hm) fun i hi => ?_
    have := h i (List.mem_range.2 hi)
    rw [Nat.testBit_and, Nat.testBit_and]
    cases hmi : m.testBit i <;> simp_all
  · intro h i hi
    have := congrArg (·.testBit i) h
    rw [Nat.testBit_and] at this
    cases hmi : m.testBit i <;> simp_all

/-! ### Texts -/
def chN (m v i : Nat) : UInt8 := if m.testBit i then (if v.testBit i then 49 else 48) else 45
def textL (m v n : Nat) : List UInt8 := (List.range n).map (chN m v)
theorem textL_length (m v n : Nat) : (textL m v n).length = n := by simp [textL]
theorem textL_succ (m v n : Nat) : textL m v (n + 1) = textL m v n ++ [chN m v n] := by simp [textL, List.range_succ]
def okCh (b : UInt8) : Bool := b == 45 || b == 48 || b == 49
def parseM (l : List UInt8) (k : Nat) : Nat := mkSet (fun i => l.getD i 45 != 45) k
def parseV (l : List UInt8) (k : Nat) : Nat := mkSet (fun i => l.getD i 45 == 49) k
def parseOk (l : List UInt8) : Bool := decide (l.length ≤ 8) && l.all okCh
theorem parse_text {m v n : Nat} (hm : m < 2 ^ n) (hv : v &&& m = v) (hn : n ≤ 8) :
    parseOk (textL m v n) = true ∧ parseM (textL m v n) n = m ∧ parseV (textL m v n) n = v := by
  have h2 : 2 ^ n ≤ 2 ^ 8 := Nat.pow_le_pow_right (by decide) hn
  have hv' : v < 2 ^ n := by rw [← hv]; exact Nat.lt_of_le_of_lt Nat.and_le_right hm
  have hg : ∀ i, i < n → (textL m v n).getD i 45 = chN m v i := fun i hi => by simp [textL, hi]
  refine ⟨?_, ?_, ?_⟩
  · unfold parseOk
    rw [textL_length]
    simp only [Bool.and_eq_true, decide_eq_true_eq, List.all_eq_true]
    refine ⟨hn, fun b hb => ?_⟩
    obtain ⟨i, _, rfl⟩ := List.mem_map.1 hb
    unfold okCh chN
    cases m.testBit i <;> cases v.testBit i <;> rfl
  · apply Nat.eq_of_testBit_eq; intro i
    rw [parseM, testBit_mkSet]
    by_cases hi : i < n
    · rw [hg i hi]; unfold chN
      cases m.testBit i <;> cases v.testBit i <;> simp [hi]
    · simp [hi, bits_of_lt_pow hm (Nat.le_of_not_lt hi)]
  · apply Nat.eq_of_testBit_eq; intro i
    rw [parseV, testBit_mkSet]
    by_cases hi : i < n
    · rw [hg i hi]; unfold chN
      have := congrArg (·.testBit i) hv
      simp only [Nat.testBit_and] at this
      cases hmi : m.testBit i <;> cases hvi : v.testBit i <;> simp_all
    · simp [hi, bits_of_lt_pow hv' (Nat.le_of_not_lt hi)]
theorem text_parse {l : List UInt8} (h : parseOk l = true) : textL (parseM l l.length) (parseV l l.length) l.length = l := by
  unfold parseOk at h
  simp only [Bool.and_eq_true, decide_eq_true_eq, List.all_eq_true] at h
  apply List.ext_getElem (textL_length _ _ _)
  intro i h1 h2
  rw [textL_length] at h1
  have hb := h.2 l[i] (List.getElem_mem h2)
  simp only [textL, List.getElem_map, List.getElem_range]
  unfold chN parseM parseV
  rw [testBit_mkSet, testBit_mkSet]
  have hg : l.getD i 45 = l[i] := by simp [List.getD_eq_getElem?_getD, h2]
  rw [hg]
  simp only [h1, decide_true, Bool.true_and]
  unfold okCh at hb
  simp only [Bool.or_eq_true, beq_iff_eq] at hb
  rcases hb with (hb | hb) | hb <;> rw [hb] <;> rfl
theorem parse_right {l : List UInt8} (h : parseOk l = true) : rightN (parseM l l.length) (parseV l l.length) (l.length : Int) = true := by
  have h8 : l.length ≤ 8 := by unfold parseOk at h; simp at h; exact h.1
  rw [rightN_iff (show parseM l l.length < 256 from mkSet_le8 _ h8) (show parseV l l.length < 256 from mkSet_le8 _ h8)]
  refine ⟨by omega, by omega, ?_, ?_⟩
  · rw [Int.toNat_natCast]; exact mkSet_lt _ _
  · apply Nat.eq_of_testBit_eq; intro i
    rw [Nat.testBit_and, parseM, parseV, testBit_mkSet, testBit_mkSet]
    by_cases hi : i < l.length
    · cases hc : l.getD i 45 == 49
      · simp
      · rw [beq_iff_eq] at hc; rw [hc]; simp [hi]
    · simp [hi]
end Go.Dk

import Derived.Tactics
import Derived.Deep.Quiet
import Derived.Orders
import Derived.Scope
import Derived.Laws.Rows
import Derived.Laws.OwnMore
import Derived.Laws.MakeOwn
import Derived.Laws.Entries
import Derived.Laws.Small
/- Lemmas, part 1: what the proof of the row uses. -/
section
/- Bits of numbers: plain lemmas, nothing of Go. -/
namespace Go.Dk

/-- How many bits are set. -/
def popc (n : Nat) : Nat := if h : n = 0 then 0 else n % 2 + popc (n / 2)
termination_by n
decreasing_by omega

theorem popc_zero : popc 0 = 0 := by unfold popc; rfl
theorem popc_pos {n : Nat} (h : n ≠ 0) : popc n = n % 2 + popc (n / 2) := by rw [popc]; simp [h]
theorem popc_step (n : Nat) : popc n = n % 2 + popc (n / 2) := by
  by_cases h : n = 0
  · subst h; simp [popc_zero]
  · exact popc_pos h

theorem popc_and_pred {w : Nat} : w ≠ 0 → popc (w &&& (w - 1)) + 1 = popc w := by
  induction w using Nat.strongRecOn with
  | _ w ih =>
    intro h
    have hm := Nat.and_mod_two_pow (a := w) (b := w - 1) (n := 1)
    have hd : (w &&& (w - 1)) / 2 = w / 2 &&& (w - 1) / 2 := by
      have := Nat.and_div_two_pow (a := w) (b := w - 1) (n := 1)
      simpa using this
    rw [popc_step w, popc_step (w &&& (w - 1)), hd]
    have hm2 : (w &&& (w - 1)) % 2 = 0 := by
      rcases Nat.mod_two_eq_zero_or_one w with h0 | h0
      · have := @Nat.and_mod_two_pow w (w - 1) 1
        simp only [Nat.pow_one] at this
        rw [this, h0]; simp
      · have := @Nat.and_mod_two_pow w (w - 1) 1
        simp only [Nat.pow_one] at this
        have h1 : (w - 1) % 2 = 0 := by omega
        rw [this, h1]; simp
    rw [hm2]
    rcases Nat.mod_two_eq_zero_or_one w with h0 | h0
    · have h1 : (w - 1) / 2 = w / 2 - 1 := by omega
      have := ih (w / 2) (by omega) (by omega)
      rw [h1, h0]; omega
    · have h1 : (w - 1) / 2 = w / 2 := by omega
      rw [h1, h0, Nat.and_self]; omega

theorem popc_split (n k : Nat) : popc n = popc (n % 2 ^ k) + popc (n / 2 ^ k) := by
  induction k generalizing n with
  | zero => simp [Nat.mod_one, popc_zero]
  | succ k ih =>
    rw [popc_step n, ih (n / 2), popc_step (n % 2 ^ (k + 1))]
    have e1 : n % 2 ^ (k + 1) % 2 = n % 2 := by
      rw [Nat.pow_succ, Nat.mul_comm, Nat.mod_mul_right_mod]
    have e2 : n % 2 ^ (k + 1) / 2 = n / 2 % 2 ^ k := by
      rw [Nat.pow_succ, Nat.mul_comm, Nat.mod_mul_right_div_self]
    have e3 : n / 2 / 2 ^ k = n / 2 ^ (k + 1) := by
      rw [Nat.div_div_eq_div_mul, Nat.pow_succ, Nat.mul_comm]
    rw [e1, e2, e3]; omega

/-- The bits that are set, below k. -/
def bitsBelow (n k : Nat) : List Nat := (List.range k).filter fun p => n.testBit p
theorem bitsBelow_succ (n k : Nat) : bitsBelow n (k + 1) = bitsBelow n k ++ (if n.testBit k then [k] else []) := by
  unfold bitsBelow
  rw [List.range_succ, List.filter_append]
  by_cases h : n.testBit k <;> simp [h]
theorem mem_bitsBelow {n k p : Nat} : p ∈ bitsBelow n k ↔ p < k ∧ n.testBit p = true := by
  unfold bitsBelow; simp
theorem bitsBelow_le (n k : Nat) : (bitsBelow n k).length ≤ k := by
  unfold bitsBelow; have := List.length_filter_le (fun p => n.testBit p) (List.range k); simpa using this
theorem popc_bitsBelow (n k : Nat) : (bitsBelow n k).length = popc (n % 2 ^ k) := by
  induction k with
  | zero => simp [bitsBelow, Nat.mod_one, popc_zero]
  | succ k ih =>
    rw [bitsBelow_succ, List.length_append, ih, popc_split (n % 2 ^ (k + 1)) k]
    have e1 : n % 2 ^ (k + 1) % 2 ^ k = n % 2 ^ k := by
      rw [Nat.pow_succ]; exact Nat.mod_mul_right_mod _ _ _
    have e2 : n % 2 ^ (k + 1) / 2 ^ k = n / 2 ^ k % 2 := by
      rw [Nat.pow_succ]; exact Nat.mod_mul_right_div_self _ _ _
    rw [e1, e2]
    have hb : n.testBit k = decide (n / 2 ^ k % 2 = 1) := by rw [Nat.testBit_eq_decide_div_mod_eq]
    rw [hb]
    rcases Nat.mod_two_eq_zero_or_one (n / 2 ^ k) with h | h
    · simp [h, popc_zero]
    · rw [h]; simp [popc_step 1, popc_zero]
/-- The points of a set, rising. -/
abbrev pts (n : Nat) : List Nat := bitsBelow n 256
theorem pts_length {n : Nat} (h : n < 2 ^ 256) : (pts n).length = popc n := by
  rw [pts, popc_bitsBelow, Nat.mod_eq_of_lt h]

/-- A set out of a condition on its points. -/
def mkSet (f : Nat → Bool) : Nat → Nat
  | 0 => 0
  | k + 1 => mkSet f k + if f k then 2 ^ k else 0
theorem mkSet_lt (f : Nat → Bool) (k : Nat) : mkSet f k < 2 ^ k := by
  induction k with
  | zero => simp [mkSet]
  | succ k ih => simp only [mkSet]; split <;> (rw [Nat.pow_succ]; omega)
theorem testBit_mkSet (f : Nat → Bool) (k p : Nat) : (mkSet f k).testBit p = (decide (p < k) && f p) := by
  induction k with
  | zero => simp [mkSet]
  | succ k ih =>
    simp only [mkSet]
    have hlt := mkSet_lt f k
    by_cases hf : f k
    · simp only [hf, if_true]
      have e : mkSet f k + 2 ^ k = mkSet f k ||| 2 ^ k := by
        rw [Nat.or_comm]
        have := Nat.two_pow_add_eq_or_of_lt hlt 1
        simp at this
        omega
      rw [e, Nat.testBit_or, ih, Nat.testBit_two_pow]
      by_cases h1 : p < k
      · have : ¬ k = p := by omega
        simp [h1, this, Nat.lt_succ_of_lt h1]
      · by_cases h2 : k = p
        · subst h2; simp [hf]
        · have : ¬ p < k + 1 := by omega
          simp [h1, h2, this]
    · simp only [hf, if_false, Bool.false_eq_true, Nat.add_zero]
      rw [ih]
      by_cases h1 : p < k
      · simp [h1, Nat.lt_succ_of_lt h1]
      · by_cases h2 : p = k
        · subst h2; simp [hf]
        · have : ¬ p < k + 1 := by omega
          simp [h1, this]
abbrev setOf (f : Nat → Bool) : Nat := mkSet f 256
theorem setOf_lt (f : Nat → Bool) : setOf f < 2 ^ 256 := mkSet_lt f 256
theorem testBit_setOf (f : Nat → Bool) (p : Nat) : (setOf f).testBit p = (decide (p < 256) && f p) := testBit_mkSet f 256 p
theorem testBit_hi {n p : Nat} (hn : n < 2 ^ 256) (hp : 256 ≤ p) : n.testBit p = false :=
  Nat.testBit_lt_two_pow (Nat.lt_of_lt_of_le hn (Nat.pow_le_pow_right (by decide) hp))
theorem set_ext {n m : Nat} (hn : n < 2 ^ 256) (hm : m < 2 ^ 256) (h : ∀ p, p < 256 → n.testBit p = m.testBit p) : n = m := by
  apply Nat.eq_of_testBit_eq; intro p
  by_cases hp : p < 256
  · exact h p hp
  · rw [testBit_hi hn (by omega), testBit_hi hm (by omega)]
theorem setOf_self {n : Nat} (hn : n < 2 ^ 256) : setOf (fun p => n.testBit p) = n := set_ext (setOf_lt _) hn fun p hp => by simp [testBit_setOf, hp]
theorem or_lt {a b : Nat} (ha : a < 2 ^ 256) (hb : b < 2 ^ 256) : a ||| b < 2 ^ 256 := Nat.or_lt_two_pow ha hb
theorem and_lt {a b : Nat} (ha : a < 2 ^ 256) : a &&& b < 2 ^ 256 := Nat.lt_of_le_of_lt Nat.and_le_left ha
/-- The points of the first alone. -/
def lessN (a b : Nat) : Nat := setOf fun p => a.testBit p && !b.testBit p
theorem testBit_lessN {a : Nat} (ha : a < 2 ^ 256) (b p : Nat) : (lessN a b).testBit p = (a.testBit p && !b.testBit p) := by
  unfold lessN; rw [testBit_setOf]
  by_cases hp : p < 256
  · simp [hp]
  · simp [hp, testBit_hi ha (Nat.le_of_not_lt hp)]
theorem lessN_lt (a b : Nat) : lessN a b < 2 ^ 256 := setOf_lt _
/-- All points of n inputs. -/
def allN (n : Nat) : Nat := setOf fun p => decide (p < 2 ^ n)
/-- The points whose bit i is so. -/
def halfN (n i : Nat) (one : Bool) : Nat := setOf fun p => n.testBit p && (p.testBit i == one)

/-- The set of a list of points. -/
def orAll : List Nat → Nat
  | [] => 0
  | p :: l => 2 ^ p ||| orAll l
theorem testBit_orAll (l : List Nat) (q : Nat) : (orAll l).testBit q = decide (q ∈ l) := by
  induction l with
  | nil => simp [orAll]
  | cons p l ih =>
    simp only [orAll, Nat.testBit_or, ih, Nat.testBit_two_pow, List.mem_cons]
    rw [Bool.eq_iff_iff]; simp; constructor
    · rintro (h | h)
      · exact .inl h.symm
      · exact .inr h
    · rintro (h | h)
      · exact .inl h.symm
      · exact .inr h
theorem orAll_snoc (l : List Nat) (p : Nat) : orAll (l ++ [p]) = orAll l ||| 2 ^ p := by
  apply Nat.eq_of_testBit_eq; intro q
  rw [testBit_orAll, Nat.testBit_or, testBit_orAll, Nat.testBit_two_pow, Bool.eq_iff_iff]
  simp
  constructor
  · rintro (h | h)
    · exact .inl h
    · exact .inr h.symm
  · rintro (h | h)
    · exact .inl h
    · exact .inr h.symm
theorem orAll_lt {l : List Nat} {k : Nat} (h : ∀ p ∈ l, p < k) : orAll l < 2 ^ k := by
  induction l with
  | nil => simp [orAll]; exact Nat.two_pow_pos k
  | cons p l ih => exact Nat.or_lt_two_pow (Nat.pow_lt_pow_right (by decide) (h p (.head _))) (ih fun q hq => h q (.tail _ hq))
theorem testBit_and_one (p i : Nat) : ((((p / 2 ^ i &&& 1 : Nat) : Int) == 1) : Bool) = p.testBit i := by
  rw [Nat.testBit_eq_decide_div_mod_eq, Nat.and_one_is_mod]
  generalize p / 2 ^ i = q
  rw [Bool.eq_iff_iff, beq_iff_eq, decide_eq_true_eq]
  omega
theorem allN_eq (n : Nat) (hn : n ≤ 8) : allN n = orAll (List.range (2 ^ n)) := by
  have h2 : 2 ^ n ≤ 2 ^ 8 := Nat.pow_le_pow_right (by decide) hn
  refine set_ext (setOf_lt _) (orAll_lt (fun p hp => by have := List.mem_range.1 hp; omega)) fun p hp => ?_
  rw [testBit_orAll, allN, testBit_setOf]; simp [hp]
theorem halfN_eq (n i : Nat) (one : Bool) : halfN n i one = orAll ((pts n).filter fun p => p.testBit i == one) := by
  refine set_ext (setOf_lt _) (orAll_lt (fun p hp => by have := (mem_bitsBelow.1 (List.mem_filter.1 hp).1).1; omega)) fun p hp => ?_
  rw [testBit_orAll, halfN, testBit_setOf, Bool.eq_iff_iff]
  simp [hp, mem_bitsBelow]
theorem halfN_lt (n i : Nat) (one : Bool) : halfN n i one < 2 ^ 256 := setOf_lt _
theorem allN_lt (n : Nat) : allN n < 2 ^ 256 := setOf_lt _
end Go.Dk
end

section
/- Cubes: plain lemmas, nothing of Go. -/
namespace Go.Dk

theorem testBit_hi8 {n i : Nat} (hn : n < 256) (hi : 8 ≤ i) : n.testBit i = false :=
  Nat.testBit_lt_two_pow (Nat.lt_of_lt_of_le hn (show 2 ^ 8 ≤ 2 ^ i from Nat.pow_le_pow_right (by decide) hi))
theorem ext8 {a b : Nat} (ha : a < 256) (hb : b < 256) (h : ∀ i, i < 8 → a.testBit i = b.testBit i) : a = b := by
  apply Nat.eq_of_testBit_eq; intro i
  by_cases hi : i < 8
  · exact h i hi
  · rw [testBit_hi8 ha (by omega), testBit_hi8 hb (by omega)]
theorem testBit_not8 {m : Nat} (hm : m < 256) (i : Nat) : (255 - m).testBit i = (decide (i < 8) && !m.testBit i) := by
  have e : 255 - m = 2 ^ 8 - (m + 1) := by omega
  rw [e, Nat.testBit_two_pow_sub_succ (by omega)]
theorem and_lt8 {a : Nat} (ha : a < 256) (b : Nat) : a &&& b < 256 := Nat.lt_of_le_of_lt Nat.and_le_left ha
theorem and_lt8' (a : Nat) {b : Nat} (hb : b < 256) : a &&& b < 256 := Nat.lt_of_le_of_lt Nat.and_le_right hb
theorem or_lt8 {a b : Nat} (ha : a < 256) (hb : b < 256) : a ||| b < 256 := Nat.or_lt_two_pow (n := 8) ha hb
theorem xor_lt8 {a b : Nat} (ha : a < 256) (hb : b < 256) : a ^^^ b < 256 := Nat.xor_lt_two_pow (n := 8) ha hb
theorem zero_iff8 {a : Nat} (ha : a < 256) : a = 0 ↔ ∀ i, i < 8 → a.testBit i = false := by
  constructor
  · rintro rfl i _; simp
  · intro h; exact ext8 ha (by decide) fun i hi => by rw [h i hi]; simp
/-- The signs lie within the mask. -/
theorem sub_iff {m v : Nat} (hm : m < 256) (hv : v < 256) : v &&& (255 - m) = 0 ↔ v &&& m = v := by
  rw [zero_iff8 (and_lt8 hv _)]
  constructor
  · intro h
    refine ext8 (and_lt8 hv _) hv fun i hi => ?_
    have := h i hi
    rw [Nat.testBit_and, testBit_not8 hm] at this
    rw [Nat.testBit_and]
    simp [hi] at this
    cases hvi : v.testBit i <;> simp_all
  · intro h i hi
    have := congrArg (·.testBit i) h
    simp only [Nat.testBit_and] at this
    rw [Nat.testBit_and, testBit_not8 hm]
    cases hvi : v.testBit i <;> simp_all
theorem mkSet8 {m : Nat} (hm : m < 256) (f : Nat → Bool) (h : ∀ i, i < 8 → f i = m.testBit i) : mkSet f 8 = m := by
  refine ext8 (mkSet_lt f 8) hm fun i hi => ?_
  rw [testBit_mkSet]; simp [hi, h i hi]
theorem mkSet_congr {f g : Nat → Bool} {k : Nat} (h : ∀ i, i < k → f i = g i) : mkSet f k = mkSet g k := by
  induction k with
  | zero => rfl
  | succ k ih => rw [mkSet, mkSet, ih fun i hi => h i (by omega), h k (by omega)]
theorem mkSet_le8 (f : Nat → Bool) {k : Nat} (hk : k ≤ 8) : mkSet f k < 256 := Nat.lt_of_lt_of_le (mkSet_lt f k) (show 2 ^ k ≤ 2 ^ 8 from Nat.pow_le_pow_right (by decide) hk)
theorem lt_pow_of_bits {m n : Nat} (hm : m < 256) (h : ∀ i, n ≤ i → i < 8 → m.testBit i = false) : m < 2 ^ n := by
  refine Nat.lt_pow_two_of_testBit m fun i hi => ?_
  by_cases h8 : i < 8
  · exact h i hi h8
  · exact testBit_hi8 hm (by omega)
theorem bits_of_lt_pow {m n i : Nat} (h : m < 2 ^ n) (hi : n ≤ i) : m.testBit i = false :=
  Nat.testBit_lt_two_pow (Nat.lt_of_lt_of_le h (Nat.pow_le_pow_right (by decide) hi))

/-! ### Literals -/
def litN (m v i : Nat) : Nat := if m.testBit i then (if v.testBit i then 1 else 0) else 2
def litsTo (m v k : Nat) : List Nat := (List.range k).map (litN m v)
abbrev lits (m v : Nat) : List Nat := litsTo m v 8
theorem litsTo_length (m v k : Nat) : (litsTo m v k).length = k := by simp [litsTo]
theorem litsTo_succ (m v k : Nat) : litsTo m v (k + 1) = litsTo m v k ++ [litN m v k] := by simp [litsTo, List.range_succ]
theorem lits_get {m v i : Nat} (hi : i < 8) : (lits m v)[i]? = some (litN m v i) := by simp [litsTo, hi]
theorem litN_le (m v i : Nat) : litN m v i ≤ 2 := by unfold litN; split <;> (try split) <;> omega
theorem litN_two {m v i : Nat} : litN m v i = 2 ↔ m.testBit i = false := by unfold litN; cases m.testBit i <;> simp; split <;> omega
def cubeM (l : List Nat) : Nat := mkSet (fun i => decide (l.getD i 2 < 2)) l.length
def cubeV (l : List Nat) : Nat := mkSet (fun i => decide (l.getD i 2 = 1)) l.length
theorem cubeM_lits {m : Nat} (hm : m < 256) (v : Nat) : cubeM (lits m v) = m := by
  unfold cubeM
  rw [litsTo_length]
  refine mkSet8 hm _ fun i hi => ?_
  rw [List.getD_eq_getElem?_getD, lits_get hi]
  unfold litN
  cases m.testBit i <;> cases v.testBit i <;> simp
theorem cubeV_lits {m v : Nat} (hm : m < 256) (hv : v < 256) : cubeV (lits m v) = v &&& m := by
  unfold cubeV
  rw [litsTo_length]
  refine mkSet8 (and_lt8 hv _) _ fun i hi => ?_
  rw [List.getD_eq_getElem?_getD, lits_get hi, Nat.testBit_and]
  unfold litN
  cases m.testBit i <;> cases v.testBit i <;> simp

/-! ### Which cubes are right, and their points -/
def rightN (m v : Nat) (n : Int) : Bool := decide (0 ≤ n) && (decide (n ≤ 8) && (decide (m < 2 ^ n.toNat) && (v &&& (255 - m) == 0)))
theorem rightN_iff {m v : Nat} {n : Int} (hm : m < 256) (hv : v < 256) : rightN m v n = true ↔ 0 ≤ n ∧ n ≤ 8 ∧ m < 2 ^ n.toNat ∧ v &&& m = v := by
  unfold rightN
  simp only [Bool.and_eq_true, decide_eq_true_eq, beq_iff_eq, sub_iff hm hv]
def cubeP (m v n : Nat) : Nat := setOf fun p => decide (p < 2 ^ n) && (p &&& m == v)
theorem cubeP_lt (m v n : Nat) : cubeP m v n < 2 ^ 256 := setOf_lt _
theorem cubeP_eq (m v : Nat) {n : Nat} (hn : n ≤ 8) : cubeP m v n = orAll ((List.range (2 ^ n)).filter fun p => p &&& m == v) := by
  have h2 : 2 ^ n ≤ 2 ^ 8 := Nat.pow_le_pow_right (by decide) hn
  refine set_ext (setOf_lt _) (orAll_lt (fun p hp => by have := List.mem_range.1 (List.mem_filter.1 hp).1; omega)) fun p hp => ?_
  rw [testBit_orAll, cubeP, testBit_setOf, Bool.eq_iff_iff]
  simp [hp]
/-- Has a cube a point? -/
def hasC (m v p : Nat) : Bool := (List.range 8).all fun i => !m.testBit i || (v.testBit i == p.testBit i)
theorem hasC_eq {m v p : Nat} (hm : m < 256) (hv : v &&& m = v) : hasC m v p = (p &&& m == v) := by
  rw [Bool.eq_iff_iff, hasC, List.all_eq_true, beq_iff_eq]
  have hlt : v < 256 := by rw [← hv]; exact and_lt8' v hm
  constructor
  · intro h
    rw [← hv]
    refine ext8 (and_lt8' p hm) (and_lt8' v hm) fun i hi => ?_
    have := h i (List.mem_range.2 hi)
    rw [Nat.testBit_and, Nat.testBit_and]
    cases hmi : m.testBit i <;> simp_all
  · intro h i hi
    have := congrArg (·.testBit i) h
    rw [Nat.testBit_and] at this
    cases hmi : m.testBit i <;> simp_all

/-! ### Texts -/
def chN (m v i : Nat) : UInt8 := if m.testBit i then (if v.testBit i then 49 else 48) else 45
def textL (m v n : Nat) : List UInt8 := (List.range n).map (chN m v)
theorem textL_length (m v n : Nat) : (textL m v n).length = n := by simp [textL]
theorem textL_succ (m v n : Nat) : textL m v (n + 1) = textL m v n ++ [chN m v n] := by simp [textL, List.range_succ]
def okCh (b : UInt8) : Bool := b == 45 || b == 48 || b == 49
def parseM (l : List UInt8) (k : Nat) : Nat := mkSet (fun i => l.getD i 45 != 45) k
def parseV (l : List UInt8) (k : Nat) : Nat := mkSet (fun i => l.getD i 45 == 49) k
def parseOk (l : List UInt8) : Bool := decide (l.length ≤ 8) && l.all okCh
theorem parse_text {m v n : Nat} (hm : m < 2 ^ n) (hv : v &&& m = v) (hn : n ≤ 8) :
    parseOk (textL m v n) = true ∧ parseM (textL m v n) n = m ∧ parseV (textL m v n) n = v := by
  have h2 : 2 ^ n ≤ 2 ^ 8 := Nat.pow_le_pow_right (by decide) hn
  have hv' : v < 2 ^ n := by rw [← hv]; exact Nat.lt_of_le_of_lt Nat.and_le_right hm
  have hg : ∀ i, i < n → (textL m v n).getD i 45 = chN m v i := fun i hi => by simp [textL, hi]
  refine ⟨?_, ?_, ?_⟩
  · unfold parseOk
    rw [textL_length]
    simp only [Bool.and_eq_true, decide_eq_true_eq, List.all_eq_true]
    refine ⟨hn, fun b hb => ?_⟩
    obtain ⟨i, _, rfl⟩ := List.mem_map.1 hb
    unfold okCh chN
    cases m.testBit i <;> cases v.testBit i <;> rfl
  · apply Nat.eq_of_testBit_eq; intro i
    rw [parseM, testBit_mkSet]
    by_cases hi : i < n
    · rw [hg i hi]; unfold chN
      cases m.testBit i <;> cases v.testBit i <;> simp [hi]
    · simp [hi, bits_of_lt_pow hm (Nat.le_of_not_lt hi)]
  · apply Nat.eq_of_testBit_eq; intro i
    rw [parseV, testBit_mkSet]
    by_cases hi : i < n
    · rw [hg i hi]; unfold chN
      have := congrArg (·.testBit i) hv
      simp only [Nat.testBit_and] at this
      cases hmi : m.testBit i <;> cases hvi : v.testBit i <;> simp_all
    · simp [hi, bits_of_lt_pow hv' (Nat.le_of_not_lt hi)]
theorem text_parse {l : List UInt8} (h : parseOk l = true) : textL (parseM l l.length) (parseV l l.length) l.length = l := by
  unfold parseOk at h
  simp only [Bool.and_eq_true, decide_eq_true_eq, List.all_eq_true] at h
  apply List.ext_getElem (textL_length _ _ _)
  intro i h1 h2
  rw [textL_length] at h1
  have hb := h.2 l[i] (List.getElem_mem h2)
  simp only [textL, List.getElem_map, List.getElem_range]
  unfold chN parseM parseV
  rw [testBit_mkSet, testBit_mkSet]
  have hg : l.getD i 45 = l[i] := by simp [List.getD_eq_getElem?_getD, h2]
  rw [hg]
  simp only [h1, decide_true, Bool.true_and]
  unfold okCh at hb
  simp only [Bool.or_eq_true, beq_iff_eq] at hb
  rcases hb with (hb | hb) | hb <;> rw [hb] <;> rfl
theorem parse_right {l : List UInt8} (h : parseOk l = true) : rightN (parseM l l.length) (parseV l l.length) (l.length : Int) = true := by
  have h8 : l.length ≤ 8 := by unfold parseOk at h; simp at h; exact h.1
  rw [rightN_iff (show parseM l l.length < 256 from mkSet_le8 _ h8) (show parseV l l.length < 256 from mkSet_le8 _ h8)]
  refine ⟨by omega, by omega, ?_, ?_⟩
  · rw [Int.toNat_natCast]; exact mkSet_lt _ _
  · apply Nat.eq_of_testBit_eq; intro i
    rw [Nat.testBit_and, parseM, parseV, testBit_mkSet, testBit_mkSet]
    by_cases hi : i < l.length
    · cases hc : l.getD i 45 == 49
      · simp
      · rw [beq_iff_eq] at hc; rw [hc]; simp [hi]
    · simp [hi]
end Go.Dk
end

section
/- Cubes and their points: plain lemmas, nothing of Go. -/
namespace Go.Dk

theorem and_eq_iff {m v : Nat} (hv : v &&& m = v) (p : Nat) : p &&& m = v ↔ ∀ i, m.testBit i = true → p.testBit i = v.testBit i := by
  constructor
  · intro h i hi
    have := congrArg (·.testBit i) h
    simp only [Nat.testBit_and, hi, Bool.and_true] at this
    exact this
  · intro h
    apply Nat.eq_of_testBit_eq; intro i
    have hvi := congrArg (·.testBit i) hv
    simp only [Nat.testBit_and] at hvi
    rw [Nat.testBit_and]
    cases hm : m.testBit i
    · rw [hm] at hvi; simpa using hvi
    · simp [h i hm]
theorem testBit_cubeP {m v n p : Nat} (hn : n ≤ 8) : (cubeP m v n).testBit p = true ↔ p < 2 ^ n ∧ p &&& m = v := by
  have h2 : 2 ^ n ≤ 2 ^ 8 := Nat.pow_le_pow_right (by decide) hn
  rw [cubeP, testBit_setOf]
  simp
  intro h _
  omega
theorem bit_lt {m n i : Nat} (hm : m < 2 ^ n) (hi : m.testBit i = true) : i < n := by
  rcases Nat.lt_or_ge i n with h | h
  · exact h
  · rw [bits_of_lt_pow hm h] at hi; cases hi
theorem sub_lt {m v n : Nat} (hm : m < 2 ^ n) (hv : v &&& m = v) : v < 2 ^ n := by rw [← hv]; exact Nat.lt_of_le_of_lt Nat.and_le_right hm
theorem zero_bits {a : Nat} : a = 0 ↔ ∀ i, a.testBit i = false := by
  constructor
  · rintro rfl i; simp
  · intro h; exact Nat.eq_of_testBit_eq fun i => by rw [h i]; simp

/-! ### How many points a cube has -/
theorem countP_double (f : Nat → Bool) (N : Nat) : (List.range (2 * N)).countP f = (List.range N).countP (fun q => f (2 * q)) + (List.range N).countP (fun q => f (2 * q + 1)) := by
  induction N with
  | zero => simp
  | succ N ih =>
    have e : 2 * (N + 1) = 2 * N + 1 + 1 := by omega
    rw [e, List.range_succ, List.range_succ, List.range_succ, List.countP_append, List.countP_append, ih, List.countP_append, List.countP_append]
    simp only [List.countP_singleton]
    omega
theorem countP_below (g : Nat → Bool) {N M : Nat} (h : N ≤ M) : (List.range M).countP (fun p => decide (p < N) && g p) = (List.range N).countP g := by
  induction M with
  | zero =>
    obtain rfl : N = 0 := by omega
    simp
  | succ M ih =>
    rw [List.range_succ, List.countP_append, List.countP_singleton]
    by_cases hN : N ≤ M
    · rw [ih hN, decide_eq_false (by omega)]; simp
    · obtain rfl : N = M + 1 := by omega
      rw [List.range_succ, List.countP_append, List.countP_singleton]
      have : (List.range M).countP (fun p => decide (p < M + 1) && g p) = (List.range M).countP g := by
        refine List.countP_congr fun p hp => ?_
        have := List.mem_range.1 hp
        simp; omega
      rw [this]; simp
def cubeN (m v n : Nat) : Nat := (List.range (2 ^ n)).countP fun p => p &&& m == v
theorem half_and (p m v : Nat) : p &&& m = v ↔ p / 2 &&& m / 2 = v / 2 ∧ p % 2 &&& m % 2 = v % 2 := by
  have h1 : (p &&& m) / 2 = p / 2 &&& m / 2 := by simpa using Nat.and_div_two_pow (a := p) (b := m) (n := 1)
  have h2 : (p &&& m) % 2 = p % 2 &&& m % 2 := by simpa using Nat.and_mod_two_pow (a := p) (b := m) (n := 1)
  rw [← h1, ← h2]
  constructor
  · rintro rfl; exact ⟨rfl, rfl⟩
  · rintro ⟨h, k⟩; omega
theorem cubeN_count : ∀ (n m v : Nat), m < 2 ^ n → v &&& m = v → cubeN m v n * 2 ^ popc m = 2 ^ n := by
  intro n
  induction n with
  | zero =>
    intro m v hm hv
    obtain rfl : m = 0 := by simpa using hm
    have : v = 0 := by simpa using hv.symm
    subst this
    simp [cubeN, popc_zero]
  | succ n ih =>
    intro m v hm hv
    have hm2 : m / 2 < 2 ^ n := by rw [Nat.pow_succ] at hm; omega
    have hh := (half_and v m v).1 hv
    have ih' := ih (m / 2) (v / 2) hm2 hh.1
    have hc : cubeN m v (n + 1) = (List.range (2 ^ n)).countP (fun q => (2 * q) &&& m == v) + (List.range (2 ^ n)).countP (fun q => (2 * q + 1) &&& m == v) := by
      unfold cubeN
      rw [Nat.pow_succ, Nat.mul_comm, countP_double]
    have e0 : ∀ q, ((2 * q) &&& m == v) = ((q &&& m / 2 == v / 2) && (v % 2 == 0)) := by
      intro q
      rw [Bool.eq_iff_iff, Bool.and_eq_true, beq_iff_eq, beq_iff_eq, beq_iff_eq, half_and (2 * q)]
      rw [show 2 * q / 2 = q by omega, show 2 * q % 2 = 0 by omega, Nat.zero_and]
      constructor
      · rintro ⟨h, k⟩; exact ⟨h, k.symm⟩
      · rintro ⟨h, k⟩; exact ⟨h, k.symm⟩
    have e1 : ∀ q, ((2 * q + 1) &&& m == v) = ((q &&& m / 2 == v / 2) && (m % 2 == v % 2)) := by
      intro q
      rw [Bool.eq_iff_iff, Bool.and_eq_true, beq_iff_eq, beq_iff_eq, beq_iff_eq, half_and (2 * q + 1)]
      rw [show (2 * q + 1) / 2 = q by omega, show (2 * q + 1) % 2 = 1 by omega]
      have : 1 &&& m % 2 = m % 2 := by rcases Nat.mod_two_eq_zero_or_one m with h | h <;> rw [h] <;> rfl
      rw [this]
    simp only [e0, e1] at hc
    have hN : ∀ b : Bool, (List.range (2 ^ n)).countP (fun q => (q &&& m / 2 == v / 2) && b) = if b then cubeN (m / 2) (v / 2) n else 0 := by
      intro b; cases b
      · simp
      · simp [cubeN]
    rw [hN, hN] at hc
    rw [hc, popc_step m, Nat.pow_add, Nat.pow_succ, ← ih']
    rcases Nat.mod_two_eq_zero_or_one m with h | h
    · have hv2 : v % 2 = 0 := by have := hh.2; rw [h] at this; simpa using this.symm
      rw [h, hv2]
      simp
      generalize cubeN (m / 2) (v / 2) n = a
      generalize 2 ^ popc (m / 2) = b
      rw [Nat.add_mul, Nat.mul_two]
    · rcases Nat.mod_two_eq_zero_or_one v with hv2 | hv2
      · rw [h, hv2]; simp
        generalize cubeN (m / 2) (v / 2) n = a
        generalize 2 ^ popc (m / 2) = b
        rw [Nat.mul_comm 2 b, Nat.mul_assoc]
      · rw [h, hv2]; simp
        generalize cubeN (m / 2) (v / 2) n = a
        generalize 2 ^ popc (m / 2) = b
        rw [Nat.mul_comm 2 b, Nat.mul_assoc]
theorem popc_leB : ∀ (k n : Nat), n < 2 ^ k → popc n ≤ k
  | 0, n, h => by
    obtain rfl : n = 0 := by simpa using h
    rw [popc_zero]; exact Nat.le_refl _
  | k + 1, n, h => by
    rw [popc_step n]
    have := popc_leB k (n / 2) (by rw [Nat.pow_succ] at h; omega)
    omega
theorem popc_cubeP {m v n : Nat} (hn : n ≤ 8) (hm : m < 2 ^ n) (hv : v &&& m = v) : popc (cubeP m v n) = 2 ^ (n - popc m) := by
  have h2 : 2 ^ n ≤ 2 ^ 8 := Nat.pow_le_pow_right (by decide) hn
  have h1 : popc (cubeP m v n) = cubeN m v n := by
    rw [← pts_length (cubeP_lt m v n)]
    unfold pts bitsBelow
    rw [← List.countP_eq_length_filter, cubeN, ← countP_below _ (show 2 ^ n ≤ 256 by omega)]
    refine List.countP_congr fun p hp => ?_
    have := List.mem_range.1 hp
    rw [cubeP, testBit_setOf]
    simp [this]
  have hp := popc_leB n m hm
  have hc := cubeN_count n m v hm hv
  rw [h1]
  have e : 2 ^ n = 2 ^ (n - popc m) * 2 ^ popc m := by rw [← Nat.pow_add]; congr 1; omega
  rw [e] at hc
  exact Nat.eq_of_mul_eq_mul_right (Nat.two_pow_pos _) hc

/-! ### What two cubes have -/
def meetB (m v x y : Nat) : Bool := ((v ^^^ y) &&& m) &&& x == 0
def meetM (m x : Nat) : Nat := m ||| x
def meetV (m v x y : Nat) : Nat := (v &&& m) ||| (y &&& x)
def joinM (m v x y : Nat) : Nat := (m &&& x) &&& (255 - (v ^^^ y))
def holdsB (m v x y : Nat) : Bool := (m &&& (255 - x) == 0) && ((v ^^^ y) &&& m == 0)
theorem meet_right {m v x y n : Nat} (hm : m < 2 ^ n) (hv : v &&& m = v) (hx : x < 2 ^ n) (hy : y &&& x = y) :
    meetM m x < 2 ^ n ∧ meetV m v x y &&& meetM m x = meetV m v x y := by
  refine ⟨Nat.or_lt_two_pow hm hx, ?_⟩
  apply Nat.eq_of_testBit_eq; intro i
  simp only [meetM, meetV, Nat.testBit_and, Nat.testBit_or]
  cases m.testBit i <;> cases x.testBit i <;> cases v.testBit i <;> cases y.testBit i <;> rfl
theorem meet_points {m v x y n : Nat} (hn : n ≤ 8) (hv : v &&& m = v) (hy : y &&& x = y) :
    cubeP m v n &&& cubeP x y n = if meetB m v x y then cubeP (meetM m x) (meetV m v x y) n else 0 := by
  split
  · rename_i h
    rw [meetB, beq_iff_eq, zero_bits] at h
    have hmv : meetV m v x y &&& meetM m x = meetV m v x y := by
      apply Nat.eq_of_testBit_eq; intro i
      simp only [meetM, meetV, Nat.testBit_and, Nat.testBit_or]
      cases m.testBit i <;> cases x.testBit i <;> cases v.testBit i <;> cases y.testBit i <;> rfl
    refine set_ext (and_lt (cubeP_lt _ _ _)) (cubeP_lt _ _ _) fun p hp => ?_
    rw [Nat.testBit_and, Bool.eq_iff_iff, Bool.and_eq_true, testBit_cubeP hn, testBit_cubeP hn, testBit_cubeP hn, and_eq_iff hv, and_eq_iff hy, and_eq_iff hmv]
    constructor
    · rintro ⟨⟨h1, h2⟩, _, h3⟩
      refine ⟨h1, fun i hi => ?_⟩
      have a2 := h2 i
      have a3 := h3 i
      have a4 := h i
      simp only [meetM, meetV, Nat.testBit_and, Nat.testBit_or, Nat.testBit_xor] at hi a4 ⊢
      cases hm : m.testBit i <;> cases hx : x.testBit i <;> simp_all
    · rintro ⟨h1, h2⟩
      refine ⟨⟨h1, fun i hi => ?_⟩, h1, fun i hi => ?_⟩
      · have a2 := h2 i
        have a4 := h i
        simp only [meetM, meetV, Nat.testBit_and, Nat.testBit_or, Nat.testBit_xor] at a2 a4
        cases hx : x.testBit i <;> cases hvi : v.testBit i <;> cases hyi : y.testBit i <;> simp_all
      · have a2 := h2 i
        have a4 := h i
        simp only [meetM, meetV, Nat.testBit_and, Nat.testBit_or, Nat.testBit_xor] at a2 a4
        cases hx : m.testBit i <;> cases hvi : v.testBit i <;> cases hyi : y.testBit i <;> simp_all
  · rename_i h
    rw [Bool.not_eq_true, meetB, beq_eq_false_iff_ne] at h
    refine set_ext (and_lt (cubeP_lt _ _ _)) (by decide) fun p hp => ?_
    rw [Nat.zero_testBit, Nat.testBit_and, Bool.eq_false_iff]
    intro hc
    rw [Bool.and_eq_true, testBit_cubeP hn, testBit_cubeP hn, and_eq_iff hv, and_eq_iff hy] at hc
    apply h
    rw [zero_bits]
    intro i
    have a2 := hc.1.2 i
    have a3 := hc.2.2 i
    simp only [Nat.testBit_and, Nat.testBit_xor]
    cases hm : m.testBit i <;> cases hx : x.testBit i <;> simp_all
theorem holds_iff {m v x y : Nat} (hm : m < 256) (hx : x < 256) : holdsB m v x y = true ↔ ∀ i, m.testBit i = true → x.testBit i = true ∧ v.testBit i = y.testBit i := by
  unfold holdsB
  rw [Bool.and_eq_true, beq_iff_eq, beq_iff_eq, zero_bits, zero_bits]
  constructor
  · rintro ⟨h1, h2⟩ i hi
    have a1 := h1 i
    have a2 := h2 i
    rw [Nat.testBit_and, testBit_not8 hx, hi] at a1
    rw [Nat.testBit_and, Nat.testBit_xor, hi] at a2
    have hi8 : i < 8 := by
      rcases Nat.lt_or_ge i 8 with h | h
      · exact h
      · rw [testBit_hi8 hm h] at hi; cases hi
    simp [hi8] at a1
    simp at a2
    exact ⟨a1, a2⟩
  · intro h
    refine ⟨fun i => ?_, fun i => ?_⟩
    · rw [Nat.testBit_and, testBit_not8 hx]
      cases hi : m.testBit i
      · rfl
      · rw [(h i hi).1]; simp
    · rw [Nat.testBit_and, Nat.testBit_xor]
      cases hi : m.testBit i
      · simp
      · rw [(h i hi).2]; simp
theorem holds_points {m v x y n : Nat} (hn : n ≤ 8) (hm : m < 2 ^ n) (hv : v &&& m = v) (hx : x < 2 ^ n) (hy : y &&& x = y) :
    holdsB m v x y = (lessN (cubeP x y n) (cubeP m v n) == 0) := by
  have h2 : 2 ^ n ≤ 2 ^ 8 := Nat.pow_le_pow_right (by decide) hn
  rw [Bool.eq_iff_iff, holds_iff (by omega) (by omega), beq_iff_eq, zero_bits]
  have hl := cubeP_lt x y n
  constructor
  · intro h p
    rw [testBit_lessN hl, Bool.eq_false_iff]
    intro hc
    rw [Bool.and_eq_true, testBit_cubeP hn, Bool.not_eq_true', Bool.eq_false_iff, ne_eq, testBit_cubeP hn] at hc
    refine hc.2 ⟨hc.1.1, (and_eq_iff hv p).2 fun i hi => ?_⟩
    rw [(and_eq_iff hy p).1 hc.1.2 i (h i hi).1, (h i hi).2]
  · intro h i hi
    have key : ∀ p, p < 2 ^ n → p &&& x = y → p &&& m = v := by
      intro p hp hpx
      have := h p
      rw [testBit_lessN hl, (testBit_cubeP hn).2 ⟨hp, hpx⟩, Bool.true_and, Bool.not_eq_false'] at this
      exact ((testBit_cubeP hn).1 this).2
    have hyl := sub_lt hx hy
    have hyi := (and_eq_iff hv y).1 (key y hyl hy) i hi
    refine ⟨?_, hyi.symm⟩
    cases hxi : x.testBit i
    · have hin := bit_lt hm hi
      have h2i : 2 ^ i < 2 ^ n := Nat.pow_lt_pow_right (by decide) hin
      have hp : y ^^^ 2 ^ i < 2 ^ n := Nat.xor_lt_two_pow hyl h2i
      have hpx : (y ^^^ 2 ^ i) &&& x = y := by
        rw [and_eq_iff hy]
        intro j hj
        rw [Nat.testBit_xor, Nat.testBit_two_pow]
        have : i ≠ j := fun e => by subst e; rw [hxi] at hj; cases hj
        simp [this]
      have := (and_eq_iff hv _).1 (key _ hp hpx) i hi
      rw [Nat.testBit_xor, Nat.testBit_two_pow, hyi] at this
      simp at this
    · rfl
theorem join_lt {m v x y : Nat} (hm : m < 256) : joinM m v x y < 256 := and_lt8 (and_lt8 hm _) _
theorem join_bit {m v x y : Nat} (hv : v < 256) (hy : y < 256) (i : Nat) : (joinM m v x y).testBit i = true → m.testBit i = true ∧ x.testBit i = true ∧ v.testBit i = y.testBit i := by
  intro h
  unfold joinM at h
  rw [Nat.testBit_and, Nat.testBit_and, testBit_not8 (xor_lt8 hv hy), Nat.testBit_xor] at h
  simp at h
  exact ⟨h.1.1, h.1.2, h.2.2⟩
theorem join_bit' {m v x y : Nat} (hm : m < 256) (hv : v < 256) (hy : y < 256) (i : Nat) (h1 : m.testBit i = true) (h2 : x.testBit i = true) (h3 : v.testBit i = y.testBit i) : (joinM m v x y).testBit i = true := by
  unfold joinM
  have hi8 : i < 8 := by
    rcases Nat.lt_or_ge i 8 with h | h
    · exact h
    · rw [testBit_hi8 hm h] at h1; cases h1
  rw [Nat.testBit_and, Nat.testBit_and, testBit_not8 (xor_lt8 hv hy), Nat.testBit_xor, h1, h2, h3]
  simp [hi8]
theorem join_holds {m v x y : Nat} (hm : m < 256) (hv : v < 256) (hx : x < 256) (hy : y < 256) :
    holdsB (joinM m v x y) (v &&& joinM m v x y) m v = true ∧ holdsB (joinM m v x y) (v &&& joinM m v x y) x y = true := by
  rw [holds_iff (join_lt hm) hm, holds_iff (join_lt hm) hx]
  refine ⟨fun i hi => ?_, fun i hi => ?_⟩
  · have := join_bit hv hy i hi
    rw [Nat.testBit_and, hi]; simp [this.1]
  · have := join_bit hv hy i hi
    rw [Nat.testBit_and, hi]; simp [this.2.1, this.2.2]
theorem join_least {m v x y c s : Nat} (hm : m < 256) (hv : v < 256) (hx : x < 256) (hy : y < 256) (hc : c < 256) (h1 : holdsB c s m v = true) (h2 : holdsB c s x y = true) :
    holdsB c s (joinM m v x y) (v &&& joinM m v x y) = true := by
  rw [holds_iff hc hm] at h1
  rw [holds_iff hc hx] at h2
  rw [holds_iff hc (join_lt hm)]
  intro i hi
  have a1 := h1 i hi
  have a2 := h2 i hi
  have := join_bit' hm hv hy i a1.1 a2.1 (a1.2.symm.trans a2.2)
  refine ⟨this, ?_⟩
  rw [Nat.testBit_and, this, a1.2]; simp
end Go.Dk
end

section
/- A walk by unfolding: frames as functions, pure operations by evaluation. -/
namespace Go.Dk

abbrev Fr := Nat → Value
def upd (N : Nat) (f : Fr) (d : Nat) (v : Value) : Fr := fun t => bif (Nat.beq t d && Nat.blt d N) then v else f t
def puto (N : Nat) (f : Fr) (d : Option Nat) (v : Value) : Fr := match d with | some d => upd N f d v | none => f
def ev (f : Fr) : Operand → Value
  | .tmp t => f t
  | .const v => v
  | .global g => .pointer (some ⟨g, 0, none⟩)
  | .func k => .func (.func k) #[] #[]

/-- The frame of an activation. -/
structure R (N : Nat) (a : Act) (f : Fr) : Prop where
  defers : a.defers = []
  size : a.tmps.size = N
  get : ∀ t, a.tmps.getD t undef = f t

theorem R.eval {N : Nat} {a : Act} {f : Fr} (h : R N a f) : a.eval = ev f := by
  funext x; cases x <;> simp [Act.eval, ev, h.get]

theorem R.put {N : Nat} {a : Act} {f : Fr} (h : R N a f) (d : Option Nat) (v : Value) : R N (a.put d v) (puto N f d v) := by
  cases d with
  | none => exact h
  | some d =>
    refine ⟨h.defers, by simp [Act.put, h.size], fun t => ?_⟩
    have hg := h.get t
    simp only [Act.put, puto, upd]
    by_cases hd : d < N
    · have hb : Nat.blt d N = true := by simp [Nat.blt_eq, hd]
      by_cases ht : t = d
      · subst ht
        simp [Array.getD, h.size, hd, hb]
      · have : Nat.beq t d = false := by
          rw [Bool.eq_false_iff]; intro hh; exact ht (Nat.eq_of_beq_eq_true hh)
        simp only [this, Bool.false_and, cond_false, ← hg]
        by_cases hs : t < a.tmps.size
        · simp [Array.getD, hs, Ne.symm ht]
        · simp [Array.getD, hs]
    · have hb : Nat.blt d N = false := by
        rw [Bool.eq_false_iff]; intro hh; rw [Nat.blt_eq] at hh; exact hd hh
      have hst : a.tmps.setIfInBounds d v = a.tmps := by
        apply Array.setIfInBounds_eq_of_size_le; rw [h.size]; omega
      simp [hb, hst, hg]

/-- Enough of a callee to enter it. -/
def enters (P : Program) (g : FuncId) : Bool :=
  match P.funcs[g]? with
  | some fn => !(fn.name == "runtime.NumGoroutine") && fn.body.isSome
  | none => false

theorem run_callFunc {P : Program} {g : FuncId} (h : enters P g = true) (args : Array Value) (w : World) :
    (callFunc g args).run P w = .ok (.enter g args) w := by
  unfold enters at h
  cases hf : P.funcs[g]? with
  | none => simp [hf] at h
  | some fn =>
    simp [hf] at h
    have hb : fn.body.isNone = false := by
      cases hbb : fn.body <;> simp_all
    have hne : fn.body ≠ none := by intro hn; rw [hn] at hb; cases hb
    simp [callFunc, program, hf, h.1, hne, Sem.run]

/-- One result of a call. -/
def Fun (P : Program) (g : FuncId) (args : List Value) (w : World) (post : Value → World → Prop) : Prop :=
  enters P g = true ∧ Calls P g args.toArray w fun e w' => ∃ v, e = .returned v ∧ post v w'

theorem Fun.mono {P : Program} {g : FuncId} {args : List Value} {w : World} {p q : Value → World → Prop} (h : Fun P g args w p)
    (hpq : ∀ v w', p v w' → q v w') : Fun P g args w q :=
  ⟨h.1, h.2.mono fun _ _ ⟨v, he, hp⟩ => ⟨v, he, hpq _ _ hp⟩⟩

def callK (P : Program) (fv : Value) (args : List Value) (w : World) (k : Value → World → Prop) : Prop :=
  match fv with
  | .func (.func g) first cap => Fun P g (first.toList ++ args ++ cap.toList) w k
  | _ => False

/-- An operation that yields a value. -/
def semK (P : Program) (s : Sem Value) (w : World) (k : Value → World → Prop) : Prop :=
  ∃ v w', s.run P w = .ok v w' ∧ k v w'
def semU (P : Program) (s : Sem Unit) (w : World) (k : Value → World → Prop) : Prop :=
  ∃ w', s.run P w = .ok () w' ∧ k undef w'

def allocK (P : Program) (t : TypeId) (w : World) (k : Value → World → Prop) : Prop := semK P (Instr.alloc t true (.tuple #[])) w k
def boxK (P : Program) (t : TypeId) (v : Value) (w : World) (k : Value → World → Prop) : Prop := semK P (Instr.box t v) w k
def buildK (P : Program) (t : TypeId) (parts : List (Nat × Value)) (w : World) (k : Value → World → Prop) : Prop := semK P (Instr.build t parts.toArray) w k
def buildSliceK (P : Program) (t : TypeId) (n : Nat) (parts : List (Nat × Value)) (w : World) (k : Value → World → Prop) : Prop := semK P (Instr.buildSlice t n parts.toArray) w k
def loadK (P : Program) (t : TypeId) (a : Value) (w : World) (k : Value → World → Prop) : Prop := semK P (Instr.loadAt t a) w k
def storeK (P : Program) (t : TypeId) (a v : Value) (w : World) (k : Value → World → Prop) : Prop := semU P (Instr.storeAt t a v) w k
def nilK (P : Program) (ρ : Operand → Value) (x : Operand) (w : World) (k : Value → World → Prop) : Prop := ∃ v, (∀ dst ty pos after guard, (execOp ρ { dst, op := .nilCheck x, type := ty, pos, after, guard }).run P w = .ok (.value v) w) ∧ k v w
def binK (P : Program) (op : BinOp) (t : TypeId) (xo yo : Operand) (x y : Value) (w : World) (k : Value → World → Prop) : Prop := semK P (do eqGuard op t xo yo x y; binOp op t x y) w k
def unK (P : Program) (op : UnOp) (x : Value) (w : World) (k : Value → World → Prop) : Prop := semK P (Op.unary op x) w k
def convK (P : Program) (s d : TypeId) (x : Value) (w : World) (k : Value → World → Prop) : Prop := semK P (convert s d x) w k
def makeMapK (P : Program) (t : TypeId) (r : Option Value) (w : World) (k : Value → World → Prop) : Prop := semK P (Instr.makeMap t r) w k
def makeSliceK (P : Program) (t : TypeId) (l c : Value) (w : World) (k : Value → World → Prop) : Prop := semK P (Instr.makeSlice t l c) w k
def makeFuncK (P : Program) (fn : Fn) (first cap : List Value) (w : World) (k : Value → World → Prop) : Prop := semK P (Instr.makeFunc fn first.toArray cap.toArray) w k
def sliceK (P : Program) (t : TypeId) (x : Value) (lo hi mx : Option Value) (w : World) (k : Value → World → Prop) : Prop := semK P (Instr.sliceAt t x lo hi mx) w k
def fieldAddrK (P : Program) (t : TypeId) (x : Value) (i : Nat) (w : World) (k : Value → World → Prop) : Prop := semK P (Instr.fieldAt t x i) w k
def fieldK (P : Program) (t : TypeId) (x : Value) (i : Nat) (w : World) (k : Value → World → Prop) : Prop := semK P (Instr.field t x i) w k
def idxAddrK (P : Program) (t : TypeId) (x i : Value) (w : World) (k : Value → World → Prop) : Prop := semK P (Instr.indexAt t x i) w k
def idxK (P : Program) (t : TypeId) (x i : Value) (w : World) (k : Value → World → Prop) : Prop := semK P (Instr.index t x i) w k
def lookupK (P : Program) (t : TypeId) (m i : Value) (ok : Bool) (w : World) (k : Value → World → Prop) : Prop := semK P (Instr.lookup t m i ok) w k
def mapSetK (P : Program) (t : TypeId) (m i x : Value) (w : World) (k : Value → World → Prop) : Prop := semU P (Instr.mapUpdate t m i x) w k
def mapEntryK (P : Program) (t : TypeId) (m i : Value) (w : World) (k : Value → World → Prop) : Prop := semK P (Instr.mapEntry t m i) w k
def entryStoreK (P : Program) (t : TypeId) (m i x : Value) (w : World) (k : Value → World → Prop) : Prop := semU P (Instr.entryStore t m i x) w k
def rangeK (P : Program) (t : TypeId) (x : Value) (w : World) (k : Value → World → Prop) : Prop := semK P (Instr.range t x) w k
def nextK (P : Program) (it : Value) (s : Bool) (t : TypeId) (w : World) (k : Value → World → Prop) : Prop := semK P (Instr.next it s t) w k
def entryK (P : Program) (it : Value) (w : World) (k : Value → World → Prop) : Prop := semK P (Instr.entry it) w k
def builtinK (P : Program) (b : Builtin) (ats : Array TypeId) (t : TypeId) (consts : Array Bool) (args : List Value) (w : World) (k : Value → World → Prop) : Prop :=
  ∃ v w', (builtin b ats t consts args.toArray).run P w = .ok (.value v) w' ∧ k v w'
/-- A condition; a thing of its own, so that the kernel does not unfold it on the wrong side. -/
inductive condB (b : Bool) (p q : Prop) : Prop
  | yes (hb : b = true) (hp : p) : condB b p q
  | no (hb : b = false) (hq : q) : condB b p q
theorem condB_eq (b : Bool) (p q : Prop) : condB b p q = if b then p else q := by
  apply propext
  constructor
  · intro h
    cases h with
    | yes hb hp => rw [hb]; exact hp
    | no hb hq => rw [hb]; exact hq
  · intro h
    cases b
    · exact .no rfl h
    · exact .yes rfl h

/-- Operations on numbers and Bools. -/
def intV (op : BinOp) (k : IntKind) (a b : Int) : Option Value :=
  match op with
  | .add => some (.int k (k.wrap (a + b)))
  | .sub => some (.int k (k.wrap (a - b)))
  | .mul => some (.int k (k.wrap (a * b)))
  | .eql => some (.bool (a == b))
  | .neq => some (.bool (a != b))
  | .lss => some (.bool (a < b))
  | .leq => some (.bool (a ≤ b))
  | .gtr => some (.bool (a > b))
  | .geq => some (.bool (a ≥ b))
  | _ => none
def sameKind : IntKind → IntKind → Bool
  | .i64, .i64 | .u64, .u64 | .u8, .u8 | .i32, .i32 | .u32, .u32 | .i8, .i8 | .i16, .i16 | .u16, .u16 => true
  | _, _ => false
theorem sameKind_eq {a b : IntKind} (h : sameKind a b = true) : a = b := by cases a <;> cases b <;> first | rfl | cases h
def binV (op : BinOp) (x y : Value) : Option Value :=
  match x, y with
  | .int k a, .int k' b => bif sameKind k k' then intV op k a b else none
  | _, _ => none

/-- A value's head is reckoned before it is written. -/
def force (v : Value) (k : Value → Prop) : Prop :=
  match v with
  | .bool b => k (.bool b)
  | .int i n => k (.int i n)
  | .float i n => k (.float i n)
  | .complex i n m => k (.complex i n m)
  | .string s => k (.string s)
  | .pointer a => k (.pointer a)
  | .slice a n c => k (.slice a n c)
  | .map r => k (.map r)
  | .chan r => k (.chan r)
  | .func fn a c => k (.func fn a c)
  | .nilFunc => k .nilFunc
  | .iface t v => k (.iface t v)
  | .nilIface => k .nilIface
  | .agg cs => k (.agg cs)
  | .tuple vs => k (.tuple vs)
theorem force_eq (v : Value) (k : Value → Prop) : force v k = k v := by cases v <;> rfl

def forceL (f : Fr) : List Operand → (List Value → Prop) → Prop
  | [], k => k []
  | x :: xs, k => force (ev f x) fun v => forceL f xs fun vs => k (v :: vs)
theorem forceL_eq (f : Fr) : ∀ (xs : List Operand) (k : List Value → Prop), forceL f xs k = k (xs.map (ev f))
  | [], _ => rfl
  | x :: xs, k => by simp only [forceL, force_eq, forceL_eq f xs, List.map_cons]
def forceP (f : Fr) : List (Nat × Operand) → (List (Nat × Value) → Prop) → Prop
  | [], k => k []
  | (i, x) :: xs, k => force (ev f x) fun v => forceP f xs fun vs => k ((i, v) :: vs)
theorem forceP_eq (f : Fr) : ∀ (xs : List (Nat × Operand)) (k : List (Nat × Value) → Prop), forceP f xs k = k (xs.map fun p => (p.1, ev f p.2))
  | [], _ => rfl
  | (i, x) :: xs, k => by simp only [forceP, force_eq, forceP_eq f xs, List.map_cons]
def forceO (f : Fr) : Option Operand → (Option Value → Prop) → Prop
  | none, k => k none
  | some x, k => force (ev f x) fun v => k (some v)
theorem forceO_eq (f : Fr) : ∀ (x : Option Operand) (k : Option Value → Prop), forceO f x k = k (x.map (ev f))
  | none, _ => rfl
  | some x, k => by simp only [forceO, force_eq, Option.map_some]

def opV (P : Program) (op : Op) (ty : TypeId) (f : Fr) (w : World) (k : Value → World → Prop) : Prop :=
  match op with
  | .move x | .assign x => force (ev f x) fun v => k v w
  | .alloc t => allocK P t w k
  | .box t x => force (ev f x) fun x => boxK P t x w k
  | .build t ps => forceP f ps.toList fun ps => buildK P t ps w k
  | .buildSlice t n ps => forceP f ps.toList fun ps => buildSliceK P t n ps w k
  | .pick c a b =>
    match ev f c with
    | .bool t => condB t (force (ev f a) fun v => k v w) (force (ev f b) fun v => k v w)
    | _ => False
  | .load t a => force (ev f a) fun a => loadK P t a w k
  | .store t a x => force (ev f a) fun a => force (ev f x) fun x => storeK P t a x w k
  | .nilCheck x =>
    match ev f x with
    | .pointer (some a) => k (.pointer (some a)) w
    | _ => nilK P (ev f) x w k
  | .binOp op t x y _ =>
    match binV op (ev f x) (ev f y) with
    | some v => k v w
    | none => force (ev f x) fun a => force (ev f y) fun b => binK P op t x y a b w k
  | .unOp op _ x =>
    match op, ev f x with
    | .not, .bool b => k (.bool !b) w
    | _, _ => unK P op (ev f x) w k
  | .convert s d x => force (ev f x) fun x => convK P s d x w k
  | .makeMap t r => forceO f r fun r => makeMapK P t r w k
  | .makeSlice t l c => force (ev f l) fun l => force (ev f c) fun c => makeSliceK P t l c w k
  | .makeFunc fn a c => forceL f a.toList fun a => forceL f c.toList fun c => makeFuncK P fn a c w k
  | .slice t x lo hi mx => force (ev f x) fun x => forceO f lo fun lo => forceO f hi fun hi => forceO f mx fun mx => sliceK P t x lo hi mx w k
  | .fieldAddr t x i => force (ev f x) fun x => fieldAddrK P t x i w k
  | .field t x i => force (ev f x) fun x => fieldK P t x i w k
  | .indexAddr t x i => force (ev f x) fun x => force (ev f i) fun i => idxAddrK P t x i w k
  | .index t x i => force (ev f x) fun x => force (ev f i) fun i => idxK P t x i w k
  | .lookup t x i ok => force (ev f x) fun x => force (ev f i) fun i => lookupK P t x i ok w k
  | .mapUpdate t m i x | .insert t m i x => force (ev f m) fun m => force (ev f i) fun i => force (ev f x) fun x => mapSetK P t m i x w k
  | .mapEntry t m i => force (ev f m) fun m => force (ev f i) fun i => mapEntryK P t m i w k
  | .entryStore t m i x => force (ev f m) fun m => force (ev f i) fun i => force (ev f x) fun x => entryStoreK P t m i x w k
  | .range t x => force (ev f x) fun x => rangeK P t x w k
  | .next x s => force (ev f x) fun x => nextK P x s ty w k
  | .entry x => force (ev f x) fun x => entryK P x w k
  | .extract x i =>
    match ev f x with
    | .tuple ⟨vs⟩ => match vs[i]? with | some v => force v fun v => k v w | none => False
    | _ => False
  | .call c =>
    match c.callee with
    | .value fv => force (ev f fv) fun fv => forceL f c.args.toList fun args => callK P fv args w k
    | .builtin b => forceL f c.args.toList fun args => builtinK P b c.argTypes ty (c.args.map fun | .const _ => true | _ => false) args w k
    | _ => False
  | _ => False
def operK (P : Program) (N : Nat) (dst : Option Tmp) (op : Op) (ty : TypeId) (f : Fr) (w : World) (k : Fr → World → Prop) : Prop :=
  opV P op ty f w fun v w' => k (puto N f dst v) w'

theorem intV_run {P : Program} {op : BinOp} {k : IntKind} {a b : Int} {v : Value} (h : intV op k a b = some v) (t : TypeId) (w : World) :
    (binOp op t (.int k a) (.int k b)).run P w = .ok v w := by
  cases op <;> simp [intV] at h <;> subst h <;> simp [binOp, Op.intArith, Op.intCmp, pure]
theorem eqGuard_int (op : BinOp) (t : TypeId) (x y : Operand) (k : IntKind) (n : Int) (v : Value) : eqGuard op t x y (.int k n) v = pure () := by cases op <;> rfl

/-- What an operation yields, said without exits. -/
def runsTo (P : Program) (o : Oper) (ρ : Operand → Value) (w : World) (k : Value → World → Prop) : Prop :=
  match (execOp ρ o).run P w with
  | .ok (.value v) w' => k v w'
  | .ok .skip w' => k undef w'
  | .ok (.enter f args) w' => Calls P f args w' fun e w'' => ∃ v, e = .returned v ∧ k v w''
  | _ => False

theorem runsTo.wp {P : Program} {o : Oper} {a : Act} {w : World} {k : Value → World → Prop} {K : Act → World → Prop} {Q : Exit → Act → World → Prop}
    (h : runsTo P o a.eval w k) (hk : ∀ v w', k v w' → K (a.put o.dst v) w') : o.wp P a w K Q := by
  unfold runsTo at h
  unfold Oper.wp
  split at h
  · rename_i v w' hr; rw [hr]; exact hk _ _ h
  · rename_i w' hr; rw [hr]; exact hk _ _ h
  · rename_i g args w' hr
    rw [hr]
    show Calls _ _ _ _ _
    refine h.mono fun e w'' ⟨v, he, hv⟩ => ?_
    subst he
    exact hk _ _ hv
  · exact h.elim
theorem runsTo.mono {P : Program} {o : Oper} {ρ : Operand → Value} {w : World} {k k' : Value → World → Prop} (h : runsTo P o ρ w k) (hk : ∀ v w', k v w' → k' v w') : runsTo P o ρ w k' := by
  unfold runsTo at *
  split at h
  · exact hk _ _ h
  · exact hk _ _ h
  · exact h.mono fun e w'' ⟨v, he, hv⟩ => ⟨v, he, hk _ _ hv⟩
  · exact h.elim
theorem runsTo.some {P : Program} {o : Oper} {ρ : Operand → Value} {w : World} {k : Value → World → Prop} (h : runsTo P o ρ w k) : ∃ v w', k v w' := by
  unfold runsTo at h
  split at h
  · exact ⟨_, _, h⟩
  · exact ⟨_, _, h⟩
  · obtain ⟨e, w', fr, ⟨v, _, hv⟩, _⟩ := h []; exact ⟨v, w', hv⟩
  · exact h.elim
theorem runsTo_value {P : Program} {o : Oper} {ρ : Operand → Value} {w w' : World} {v : Value} {k : Value → World → Prop} (hr : (execOp ρ o).run P w = .ok (.value v) w') (h : k v w') : runsTo P o ρ w k := by
  unfold runsTo; rw [hr]; exact h

theorem opV_sound {P : Program} (o : Oper) {f : Fr} {w : World} {k : Value → World → Prop} (h : opV P o.op o.type f w k) : runsTo P o (ev f) w k := by
  obtain ⟨dst, op, ty, pos, after, guard⟩ := o
  cases op <;> simp only [opV, force_eq, forceL_eq, forceP_eq, forceO_eq] at h
  case move x => exact runsTo_value rfl h
  case assign x => exact runsTo_value rfl h
  case alloc t => obtain ⟨v, w', hr, h⟩ := h; simpa [runsTo, execOp, hr] using h
  case box t x => obtain ⟨v, w', hr, h⟩ := h; simpa [runsTo, execOp, hr] using h
  case build t ps =>
    obtain ⟨v, w', hr, h⟩ := h
    have e : (List.map (fun p => (p.1, ev f p.2)) ps.toList).toArray = ps.map fun (i, x) => (i, ev f x) := by
      rw [← Array.toList_inj]; simp
    rw [e] at hr
    simpa [runsTo, execOp, hr] using h
  case buildSlice t n ps =>
    obtain ⟨v, w', hr, h⟩ := h
    have e : (List.map (fun p => (p.1, ev f p.2)) ps.toList).toArray = ps.map fun (i, x) => (i, ev f x) := by
      rw [← Array.toList_inj]; simp
    rw [e] at hr
    simpa [runsTo, execOp, hr] using h
  case pick c a b =>
    split at h
    · rename_i t hx
      rw [condB_eq] at h
      cases t
      · exact runsTo_value (v := ev f b) (w' := w) (by simp [execOp, hx, asBool]) (by simpa using h)
      · exact runsTo_value (v := ev f a) (w' := w) (by simp [execOp, hx, asBool]) (by simpa using h)
    · exact h.elim
  case load t x => obtain ⟨v, w', hr, h⟩ := h; simpa [runsTo, execOp, hr] using h
  case store t x y => obtain ⟨w', hr, h⟩ := h; simpa [runsTo, execOp, hr] using h
  case nilCheck x =>
    split at h
    · rename_i ad hx; exact runsTo_value (by simp [execOp, hx]) h
    · obtain ⟨v, hr, h⟩ := h; exact runsTo_value (hr ..) h
  case binOp op t x y u =>
    split at h
    · rename_i v hv
      unfold binV at hv
      split at hv
      · rename_i k1 n1 k2 n2 hx hy
        cases hs : sameKind k1 k2 with
        | false => simp [hs] at hv
        | true =>
          obtain rfl := sameKind_eq hs
          simp [hs] at hv
          exact runsTo_value (by simp [execOp, hx, hy, eqGuard_int, intV_run hv]) h
      · cases hv
    · obtain ⟨v, w', hr, h⟩ := h
      have : (execOp (ev f) { dst, op := .binOp op t x y u, type := ty, pos, after, guard }).run P w = .ok (.value v) w' := by
        simp only [execOp]
        rw [Sem.run_bind, hr]
        rfl
      exact runsTo_value this h
  case unOp op t x =>
    split at h
    · rename_i b hx; exact runsTo_value (by simp [execOp, hx, Op.unary]) h
    · obtain ⟨v, w', hr, h⟩ := h; simpa [runsTo, execOp, hr] using h
  case convert s d x => obtain ⟨v, w', hr, h⟩ := h; simpa [runsTo, execOp, hr] using h
  case makeMap t r => obtain ⟨v, w', hr, h⟩ := h; simpa [runsTo, execOp, hr] using h
  case makeSlice t l c => obtain ⟨v, w', hr, h⟩ := h; simpa [runsTo, execOp, hr] using h
  case makeFunc fn as cs =>
    obtain ⟨v, w', hr, h⟩ := h
    have e1 : (List.map (ev f) as.toList).toArray = as.map (ev f) := by rw [← Array.toList_inj]; simp
    have e2 : (List.map (ev f) cs.toList).toArray = cs.map (ev f) := by rw [← Array.toList_inj]; simp
    rw [e1, e2] at hr
    simpa [runsTo, execOp, hr] using h
  case slice t x lo hi mx => obtain ⟨v, w', hr, h⟩ := h; simpa [runsTo, execOp, hr] using h
  case fieldAddr t x i => obtain ⟨v, w', hr, h⟩ := h; simpa [runsTo, execOp, hr] using h
  case field t x i => obtain ⟨v, w', hr, h⟩ := h; simpa [runsTo, execOp, hr] using h
  case indexAddr t x i => obtain ⟨v, w', hr, h⟩ := h; simpa [runsTo, execOp, hr] using h
  case index t x i => obtain ⟨v, w', hr, h⟩ := h; simpa [runsTo, execOp, hr] using h
  case lookup t x i ok => obtain ⟨v, w', hr, h⟩ := h; simpa [runsTo, execOp, hr] using h
  case mapUpdate t m i x => obtain ⟨w', hr, h⟩ := h; simpa [runsTo, execOp, hr] using h
  case insert t m i x => obtain ⟨w', hr, h⟩ := h; simpa [runsTo, execOp, hr] using h
  case mapEntry t m i => obtain ⟨v, w', hr, h⟩ := h; simpa [runsTo, execOp, hr] using h
  case entryStore t m i x => obtain ⟨w', hr, h⟩ := h; simpa [runsTo, execOp, hr] using h
  case range t x => obtain ⟨v, w', hr, h⟩ := h; simpa [runsTo, execOp, hr] using h
  case next x s => obtain ⟨v, w', hr, h⟩ := h; simpa [runsTo, execOp, hr] using h
  case entry x => obtain ⟨v, w', hr, h⟩ := h; simpa [runsTo, execOp, hr] using h
  case extract x i =>
    split at h
    · rename_i vs hx
      split at h
      · rename_i v hv
        have hv' : vs[i]? = some v := hv
        exact runsTo_value (by simp [execOp, Instr.extract, hx, hv']) h
      · exact h.elim
    · exact h.elim
  case call c =>
    obtain ⟨callee, args, ats⟩ := c
    cases callee with
    | value fv =>
      simp only [] at h
      unfold callK at h
      split at h
      · rename_i g first cap hfv
        have e1 : ((first.toList ++ List.map (ev f) args.toList ++ cap.toList)).toArray = first ++ args.map (ev f) ++ cap := by
          rw [← Array.toList_inj]; simp
        obtain ⟨hent, hc⟩ := h
        rw [e1] at hc
        have hrun : (execOp (ev f) { dst, op := .call { callee := .value fv, args, argTypes := ats }, type := ty, pos, after, guard }).run P w = .ok (.enter g (first ++ args.map (ev f) ++ cap)) w := by
          simp [execOp, resolve, Deferred.ofValue, hfv, invoke, run_callFunc hent]
        unfold runsTo
        rw [hrun]
        exact hc
      · exact h.elim
    | builtin b =>
      obtain ⟨v, w', hr, h⟩ := h
      have e1 : (List.map (ev f) args.toList).toArray = args.map (ev f) := by rw [← Array.toList_inj]; simp
      rw [e1] at hr
      have hrun : (execOp (ev f) { dst, op := .call { callee := .builtin b, args, argTypes := ats }, type := ty, pos, after, guard }).run P w = .ok (.value v) w' := by
        simp only [execOp, resolve, invoke]
        exact hr
      exact runsTo_value hrun h
    | invoke r m => exact h.elim

theorem operK_sound {P : Program} {N : Nat} {o : Oper} {f : Fr} {w : World} {k : Fr → World → Prop} {a : Act} {K : Act → World → Prop} {Q : Exit → Act → World → Prop}
    (hR : R N a f) (hk : ∀ a' f' w', R N a' f' → k f' w' → K a' w') (h : operK P N o.dst o.op o.type f w k) : o.wp P a w K Q := by
  have h' := opV_sound o h
  rw [← hR.eval] at h'
  exact h'.wp fun v w' hv => hk _ _ _ (hR.put _ _) hv

theorem semK_mono {P : Program} {s : Sem Value} {w : World} {k k' : Value → World → Prop} (hk : ∀ v w', k v w' → k' v w') (h : semK P s w k) : semK P s w k' :=
  let ⟨v, w', hr, hh⟩ := h; ⟨v, w', hr, hk _ _ hh⟩
theorem semU_mono {P : Program} {s : Sem Unit} {w : World} {k k' : Value → World → Prop} (hk : ∀ v w', k v w' → k' v w') (h : semU P s w k) : semU P s w k' :=
  let ⟨w', hr, hh⟩ := h; ⟨w', hr, hk _ _ hh⟩
theorem opV_mono {P : Program} {op : Op} {ty : TypeId} {f : Fr} {w : World} {k k' : Value → World → Prop} (hk : ∀ v w', k v w' → k' v w') (h : opV P op ty f w k) : opV P op ty f w k' := by
  cases op <;> simp only [opV, force_eq, forceL_eq, forceP_eq, forceO_eq] at h ⊢
  case move x => exact hk _ _ h
  case assign x => exact hk _ _ h
  case pick c a b =>
    split
    · rename_i t hc
      simp only [hc] at h
      rw [condB_eq] at h ⊢
      cases t
      · exact hk _ _ h
      · exact hk _ _ h
    · rename_i hc
      split at h
      · rename_i t ht; exact absurd ht (hc t)
      · exact h
  case nilCheck x =>
    split
    · rename_i a hx; simp only [hx] at h; exact hk _ _ h
    · rename_i hx
      split at h
      · rename_i a ha; exact absurd ha (hx a)
      · obtain ⟨v, h1, h2⟩ := h; exact ⟨v, h1, hk _ _ h2⟩
  case binOp op t x y u =>
    split
    · rename_i v hv; simp only [hv] at h; exact hk _ _ h
    · rename_i hv; simp only [hv] at h; exact semK_mono hk h
  case unOp op t x =>
    split
    · rename_i b hb; simp only [hb] at h; exact hk _ _ h
    · rename_i hb
      split at h
      · rename_i b hb'; exact (hb b rfl hb').elim
      · exact semK_mono hk h
  case extract x i =>
    split
    · rename_i vs hx
      simp only [hx] at h
      split
      · rename_i v hv; simp only [hv] at h; exact hk _ _ h
      · rename_i hv; simp only [hv] at h
    · rename_i hx
      split at h
      · rename_i vs hvs; exact absurd hvs (hx vs)
      · exact h
  case call c =>
    split
    · rename_i fv hc
      simp only [hc] at h
      unfold callK at h ⊢
      split
      · rename_i g a b hg; simp only [hg] at h; exact h.mono hk
      · rename_i hg
        split at h
        · rename_i g a b hg'; exact absurd hg' (hg g a b)
        · exact h
    · rename_i b hc
      simp only [hc] at h
      obtain ⟨v, w', hr, hh⟩ := h
      exact ⟨v, w', hr, hk _ _ hh⟩
    · rename_i h1 h2
      split at h
      · rename_i fv hfv; exact absurd hfv (h1 fv)
      · rename_i b hb; exact absurd hb (h2 b)
      · exact h
  case store t a x => exact semU_mono hk h
  case mapUpdate t m i x => exact semU_mono hk h
  case insert t m i x => exact semU_mono hk h
  case entryStore t m i x => exact semU_mono hk h
  all_goals first | exact semK_mono hk h | exact h

attribute [irreducible] allocK boxK buildK buildSliceK loadK storeK nilK binK unK convK makeMapK makeSliceK makeFuncK sliceK fieldAddrK fieldK idxAddrK idxK
  lookupK mapSetK mapEntryK entryStoreK rangeK nextK entryK builtinK callK

/-- The operations of a region in the text's order. -/
def opsK (P : Program) (N : Nat) (ops : Array Oper) (k : Fr → World → Prop) : List Oper → Fr → World → Prop
  | [], f, w => k f w
  | ⟨dst, op, ty, _, _, none⟩ :: rest, f, w => operK P N dst op ty f w (opsK P N ops k rest)
  | ⟨dst, op, ty, _, _, some (j, want)⟩ :: rest, f, w =>
      match (ops[j]?).bind (·.dst) with
      | some d =>
        match f d with
        | .bool b => match want with
          | true => condB b (operK P N dst op ty f w (opsK P N ops k rest)) (opsK P N ops k rest (puto N f dst undef) w)
          | false => condB b (opsK P N ops k rest (puto N f dst undef) w) (operK P N dst op ty f w (opsK P N ops k rest))
        | _ => opsK P N ops k rest (puto N f dst undef) w
      | none => opsK P N ops k rest (puto N f dst undef) w

/-- Does an operation change the world, or call? -/
def loud : Op → Bool
  | .move _ | .assign _ | .pick .. | .load .. | .nilCheck _ | .binOp .. | .unOp .. | .convert .. | .slice .. | .fieldAddr .. | .field .. | .indexAddr .. | .index ..
  | .lookup .. | .extract .. | .build .. | .makeFunc .. => false
  | .call { callee := .builtin .len, .. } | .call { callee := .builtin .cap, .. } | .call { callee := .builtin .min, .. } | .call { callee := .builtin .max, .. } => false
  | _ => true

/-- All that the mixed walk asks of a region's text. -/
def directB (ops : Array Oper) : Bool :=
  (List.range ops.size).all fun j => match ops[j]? with
    | some o => o.after.all fun e => !Region.binds .any e || decide (e.on < j)
    | none => true
/-- What each operation waits for, directly or through others: a number's bits. -/
def closRow (after : List Edge) (acc : Array Nat) : Nat := after.foldl (fun s e => bif Region.binds .any e then s ||| 2 ^ e.on ||| acc.getD e.on 0 else s) 0
def closL : List Oper → Array Nat → Array Nat
  | [], acc => acc
  | o :: l, acc => closL l (acc.push (closRow o.after.toList acc))
def waitsC (c : Array Nat) (j i : Nat) : Bool := (c.getD j 0).testBit i
def pairC (ops : Array Oper) (c : Array Nat) (i j : Nat) : Bool :=
  match ops[i]?, ops[j]? with
  | some x, some y => (x.apart ops y && !(loud x.op && loud y.op)) || waitsC c j i
  | _, _ => true
def mixB (ops : Array Oper) : Bool :=
  directB ops && (List.range ops.size).all fun j => (List.range j).all fun i => pairC ops (closL ops.toList #[]) i j
/-- Does an operation wait for all that is quiet? -/
def tailB (ops : Array Oper) (i : Nat) : Bool :=
  (List.range ops.size).all fun j => j == i || (match ops[j]? with | some o => loud o.op | none => true) || waitsC (closL ops.toList #[]) i j

def Closed (ops : Array Oper) (D : Nat → Prop) : Prop := ∀ j, D j → ∀ o, ops[j]? = some o → ∀ e ∈ o.after, Region.binds .any e = true → D e.on
theorem closRow_spec {acc : Array Nat} {i : Nat} : ∀ (after : List Edge) (s : Nat), (after.foldl (fun s e => bif Region.binds .any e then s ||| 2 ^ e.on ||| acc.getD e.on 0 else s) s).testBit i = true →
    s.testBit i = true ∨ ∃ e ∈ after, Region.binds .any e = true ∧ (e.on = i ∨ (acc.getD e.on 0).testBit i = true) := by
  intro after
  induction after with
  | nil => intro s h; exact .inl h
  | cons e l ih =>
    intro s h
    simp only [List.foldl_cons] at h
    rcases ih _ h with h | ⟨e', he', h⟩
    · cases hb : Region.binds .any e with
      | false => rw [hb] at h; exact .inl h
      | true =>
        rw [hb] at h
        simp only [cond_true, Nat.testBit_or, Bool.or_eq_true, Nat.testBit_two_pow, decide_eq_true_eq] at h
        rcases h with (h | h) | h
        · exact .inl h
        · exact .inr ⟨e, .head _, hb, .inl h⟩
        · exact .inr ⟨e, .head _, hb, .inr h⟩
    · exact .inr ⟨e', .tail _ he', h⟩
theorem closL_spec {ops : Array Oper} {D : Nat → Prop} (hD : Closed ops D) : ∀ (l : List Oper) (acc : Array Nat), (∀ k, l[k]? = ops[acc.size + k]?) →
    (∀ j i, D j → waitsC acc j i = true → D i) → ∀ j i, D j → waitsC (closL l acc) j i = true → D i := by
  intro l
  induction l with
  | nil => intro acc _ h; exact h
  | cons o l ih =>
    intro acc hl h
    refine ih _ (fun k => by have := hl (k + 1); simpa [Nat.add_assoc, Nat.add_comm 1 k] using this) ?_
    intro j i hj hw
    by_cases hjs : j < acc.size
    · refine h j i hj ?_
      unfold waitsC at hw ⊢
      simpa [Array.getD, hjs, Nat.lt_succ_of_lt hjs, Array.getElem_push_lt hjs] using hw
    · by_cases hje : j = acc.size
      · subst hje
        have ho : ops[acc.size]? = some o := by have := hl 0; simpa using this.symm
        unfold waitsC at hw
        simp [Array.getD] at hw
        rcases closRow_spec _ _ hw with h0 | ⟨e, he, hb, h1⟩
        · simp at h0
        · have hde := hD _ hj o ho e (by simpa using he) hb
          rcases h1 with h1 | h1
          · exact h1 ▸ hde
          · exact h _ _ hde h1
      · unfold waitsC at hw
        have : ¬ j < acc.size + 1 := by omega
        simp [Array.getD, this] at hw
theorem waitsC_step {ops : Array Oper} {D : Nat → Prop} (hD : Closed ops D) (j i : Nat) (hj : D j) (hw : waitsC (closL ops.toList #[]) j i = true) : D i :=
  closL_spec hD ops.toList #[] (fun k => by simp) (fun j i _ h => by simp [waitsC] at h) j i hj hw

/-- A quiet operation yields one value in all worlds of a class. -/
def quietE (P : Program) (C : World → Prop) (o : Oper) (a : Act) (v : Value) : Prop := ∀ w, C w → (execOp a.eval o).run P w = .ok (.value v) w

/-- The mixed walk, over operations that are still to come, in the text's order. -/
def wpMix (P : Program) (ops : Array Oper) (C : World → Prop) (Q : Act → World → Prop) : List Nat → Act → World → Prop
  | [], a, w => Q a w
  | i :: rest, a, w =>
    match ops[i]? with
    | none => wpMix P ops C Q rest a w
    | some o =>
      if Region.wanted o (yielded ops a.tmps) then
        (if loud o.op then runsTo P o a.eval w fun v w' => (C w' ∨ tailB ops i = true) ∧ wpMix P ops C Q rest (a.put o.dst v) w'
         else ∃ v, quietE P C o a v ∧ wpMix P ops C Q rest (a.put o.dst v) w)
      else wpMix P ops C Q rest (a.put o.dst undef) w

/-- One operation taken. -/
def stepMix (P : Program) (ops : Array Oper) (C : World → Prop) (i : Nat) (K : Act → World → Prop) (a : Act) (w : World) : Prop :=
  match ops[i]? with
  | none => K a w
  | some o =>
    if Region.wanted o (yielded ops a.tmps) then
      (if loud o.op then runsTo P o a.eval w fun v w' => (C w' ∨ tailB ops i = true) ∧ K (a.put o.dst v) w'
       else ∃ v, quietE P C o a v ∧ K (a.put o.dst v) w)
    else K (a.put o.dst undef) w

section mix
variable {P : Program} {ops : Array Oper} {C : World → Prop}

theorem runsTo_same {o : Oper} {ρ ρ' : Operand → Value} {w : World} {k : Value → World → Prop} (he : execOp ρ' o = execOp ρ o) : runsTo P o ρ' w k = runsTo P o ρ w k := by
  unfold runsTo; rw [he]

theorem pull {Q : Act → World → Prop} {i : Nat} {oi : Oper} (hi : ops[i]? = some oi) (hns : Region.noSelect ops = true) (post : List Nat) : ∀ (pre : List Nat) (a : Act) (w : World), (C w ∨ ∀ k ∈ pre ++ i :: post, ∀ o, ops[k]? = some o → loud o.op = true) →
    (∀ k ∈ pre, ∀ ok, ops[k]? = some ok → ok.apart ops oi = true ∧ (loud ok.op && loud oi.op) = false ∧ (loud oi.op = false → tailB ops k = false)) →
    wpMix P ops C Q (pre ++ i :: post) a w → stepMix P ops C i (wpMix P ops C Q (pre ++ post)) a w := by
  have hsel := Region.noSelect_spec hns
  intro pre
  induction pre with
  | nil => intro a w _ _ h; exact h
  | cons k pre ih =>
    intro a w hC hp h
    have ih' := fun a w hC h => ih a w hC (fun k hk => hp k (.tail _ hk)) h
    have hC' : C w ∨ ∀ k ∈ pre ++ i :: post, ∀ o, ops[k]? = some o → loud o.op = true := hC.imp id fun hh k hk => hh k (.tail _ hk)
    simp only [List.cons_append, wpMix] at h
    cases hk : ops[k]? with
    | none =>
      simp only [hk] at h
      have := ih' a w hC' h
      unfold stepMix at this ⊢
      simp only [hi] at this ⊢
      simpa only [List.cons_append, wpMix, hk] using this
    | some ok =>
      simp only [hk] at h
      obtain ⟨hap, hll, htl⟩ := hp k (.head _) ok hk
      obtain ⟨h1, h2, h3⟩ := Oper.apart_spec hap
      have selk := fun cs b => hsel k ok cs b hk
      have seli := fun cs b => hsel i oi cs b hi
      have exi : ∀ (a : Act) (u : Value), execOp (a.put ok.dst u).eval oi = execOp a.eval oi := fun a u => execOp_put oi seli a ok.dst u h1
      have exk : ∀ (a : Act) (u : Value), execOp (a.put oi.dst u).eval ok = execOp a.eval ok := fun a u => execOp_put ok selk a oi.dst u h3
      have wai : ∀ (a : Act) (u : Value), Region.wanted oi (yielded ops (a.put ok.dst u).tmps) = Region.wanted oi (yielded ops a.tmps) := fun a u => wanted_put oi a ok.dst u h1
      have wak : ∀ (a : Act) (u : Value), Region.wanted ok (yielded ops (a.put oi.dst u).tmps) = Region.wanted ok (yielded ops a.tmps) := fun a u => wanted_put ok a oi.dst u h3
      have comm : ∀ (a : Act) (u v : Value), (a.put ok.dst u).put oi.dst v = (a.put oi.dst v).put ok.dst u := fun a u v => (Act.put_comm a u v h2)
      have qi : ∀ (a : Act) (u v : Value), quietE P C oi (a.put ok.dst u) v ↔ quietE P C oi a v := fun a u v => by unfold quietE; rw [exi]
      have qk : ∀ (a : Act) (u v : Value), quietE P C ok (a.put oi.dst u) v ↔ quietE P C ok a v := fun a u v => by unfold quietE; rw [exk]
      by_cases hwk : Region.wanted ok (yielded ops a.tmps) = true
      · rw [if_pos hwk] at h
        by_cases hlk : loud ok.op = true
        · rw [if_pos hlk] at h
          have hli : loud oi.op = false := by simpa [hlk] using hll
          have hCw : C w := hC.resolve_right fun hh => by
            have := hh i (by simp) oi hi
            rw [hli] at this; cases this
          have h' := h.mono (k' := fun v w' => C w' ∧ stepMix P ops C i (wpMix P ops C Q (pre ++ post)) (a.put ok.dst v) w') fun v w' hh =>
            have hc := hh.1.resolve_right (by rw [htl hli]; simp)
            ⟨hc, ih' _ _ (.inl hc) hh.2⟩
          unfold stepMix at h' ⊢
          simp only [hi, hli, wai] at h' ⊢
          by_cases hwi : Region.wanted oi (yielded ops a.tmps) = true
          · simp only [hwi, if_true, Bool.false_eq_true, if_false] at h' ⊢
            obtain ⟨v0, w0, _, u0, hu0, _⟩ := h'.some
            rw [qi] at hu0
            refine ⟨u0, hu0, ?_⟩
            simp only [List.cons_append, wpMix, hk, wak, hwk, if_true, hlk]
            rw [runsTo_same (exk a u0)]
            refine h'.mono fun v w' ⟨hC', u, hu, hh⟩ => ⟨.inl hC', ?_⟩
            rw [qi] at hu
            have e := (hu w hCw).symm.trans (hu0 w hCw)
            injection e with e _
            injection e with e
            subst e
            rw [← comm]; exact hh
          · simp only [hwi, if_false, Bool.false_eq_true] at h' ⊢
            simp only [List.cons_append, wpMix, hk, wak, hwk, if_true, hlk]
            rw [runsTo_same (exk a undef)]
            refine h'.mono fun v w' ⟨hC', hh⟩ => ⟨.inl hC', ?_⟩
            rw [← comm]; exact hh
        · rw [if_neg hlk] at h
          obtain ⟨v, hv, h⟩ := h
          have h' := ih' _ _ hC' h
          unfold stepMix at h' ⊢
          simp only [hi, wai, runsTo_same (exi a v)] at h' ⊢
          have fin : ∀ u w', wpMix P ops C Q (pre ++ post) ((a.put ok.dst v).put oi.dst u) w' → wpMix P ops C Q (k :: pre ++ post) (a.put oi.dst u) w' := by
            intro u w' hh
            simp only [List.cons_append, wpMix, hk, wak, hwk, if_true, hlk, if_false, Bool.false_eq_true]
            exact ⟨v, (qk a u v).2 hv, by rw [← comm]; exact hh⟩
          split
          · rename_i hwi
            rw [if_pos hwi] at h'
            split
            · rename_i hli
              rw [if_pos hli] at h'
              exact h'.mono fun u w' hh => ⟨hh.1, fin _ _ hh.2⟩
            · rename_i hli
              rw [if_neg hli] at h'
              obtain ⟨u, hu, hh⟩ := h'
              exact ⟨u, (qi a v u).1 hu, fin _ _ hh⟩
          · rename_i hwi
            rw [if_neg hwi] at h'
            exact fin _ _ h'
      · rw [if_neg hwk] at h
        have h' := ih' _ _ hC' h
        unfold stepMix at h' ⊢
        simp only [hi, wai, runsTo_same (exi a undef)] at h' ⊢
        have fin : ∀ u w', wpMix P ops C Q (pre ++ post) ((a.put ok.dst undef).put oi.dst u) w' → wpMix P ops C Q (k :: pre ++ post) (a.put oi.dst u) w' := by
          intro u w' hh
          simp only [List.cons_append, wpMix, hk, wak, hwk, if_false, Bool.false_eq_true]
          rw [← comm]; exact hh
        split
        · rename_i hwi
          rw [if_pos hwi] at h'
          split
          · rename_i hli
            rw [if_pos hli] at h'
            exact h'.mono fun u w' hh => ⟨hh.1, fin _ _ hh.2⟩
          · rename_i hli
            rw [if_neg hli] at h'
            obtain ⟨u, hu, hh⟩ := h'
            exact ⟨u, (qi a undef u).1 hu, fin _ _ hh⟩
        · rename_i hwi
          rw [if_neg hwi] at h'
          exact fin _ _ h'

theorem directB_spec (h : directB ops = true) {j : Nat} {o : Oper} (hj : ops[j]? = some o) {e : Edge} (he : e ∈ o.after) (hb : Region.binds .any e = true) : e.on < j := by
  unfold directB at h
  rw [List.all_eq_true] at h
  have hlt : j < ops.size := (Array.getElem?_eq_some_iff.1 hj).1
  have := h j (List.mem_range.2 hlt)
  rw [hj] at this
  simp only at this
  rw [Array.all_eq_true] at this
  obtain ⟨x, hx, hex⟩ := Array.mem_iff_getElem.1 he
  have := this x hx
  rw [hex] at this
  simpa [hb] using this

theorem any_of_mix {Q : Act → World → Prop} {Q' : Exit → Act → World → Prop} (hQ : ∀ a w, Q a w → Q' .normal a w) (hns : Region.noSelect ops = true) (hm : mixB ops = true) :
    ∀ (l : List Nat) (listed : Array Bool) (a : Act) (w : World), l.Pairwise (· < ·) → (∀ j, j ∈ l ↔ j < ops.size ∧ listed.getD j true = false) → listed.size = ops.size →
    (∀ j o, ops[j]? = some o → listed.getD j false = true → ∀ e ∈ o.after, Region.binds .any e = true → listed.getD e.on false = true) →
    (C w ∨ ∀ k ∈ l, ∀ o, ops[k]? = some o → loud o.op = true) → wpMix P ops C Q l a w → wpAny P .any ops Q' l.length listed a w := by
  simp only [mixB, Bool.and_eq_true] at hm
  obtain ⟨hdir, hpair⟩ := hm
  have key : ∀ (n : Nat) (l : List Nat) (listed : Array Bool) (a : Act) (w : World), l.length = n → l.Pairwise (· < ·) → (∀ j, j ∈ l ↔ j < ops.size ∧ listed.getD j true = false) → listed.size = ops.size →
    (∀ j o, ops[j]? = some o → listed.getD j false = true → ∀ e ∈ o.after, Region.binds .any e = true → listed.getD e.on false = true) →
    (C w ∨ ∀ k ∈ l, ∀ o, ops[k]? = some o → loud o.op = true) → wpMix P ops C Q l a w → wpAny P .any ops Q' n listed a w := by
    intro n
    induction n with
    | zero =>
      intro l listed a w hn hpw hmem hsz hcl hC h
      have hl : l = [] := List.eq_nil_of_length_eq_zero hn
      subst hl
      refine ⟨?_, hQ _ _ h⟩
      rw [List.eq_nil_iff_forall_not_mem]
      intro i hi
      obtain ⟨h1, oi, h2, _⟩ := mem_ready.1 hi
      have := (hmem i).2 ⟨(Array.getElem?_eq_some_iff.1 h2).1, h1⟩
      cases this
    | succ n ih =>
      intro l listed a w hn hpw hmem hsz hcl hC h
      have gfalse : ∀ j, j < ops.size → j ∉ l → listed.getD j false = true := by
        intro j hj hjl
        have : ¬ listed.getD j true = false := fun hh => hjl ((hmem j).2 ⟨hj, hh⟩)
        have hjs : j < listed.size := by omega
        simp only [Array.getD, hjs, dif_pos] at this ⊢
        simpa using this
      constructor
      · intro hr
        exfalso
        cases l with
        | nil => simp at hn
        | cons i l =>
          have hi := (hmem i).1 (.head _)
          have hin : i ∈ Region.ready .any ops listed := by
            refine mem_ready.2 ⟨hi.2, ops[i], Array.getElem?_eq_getElem hi.1, ?_⟩
            intro e he hb
            have hlt := directB_spec hdir (Array.getElem?_eq_getElem hi.1) he hb
            refine gfalse _ (by omega) fun hmem' => ?_
            rcases List.mem_cons.1 hmem' with h | h
            · omega
            · have := (List.pairwise_cons.1 hpw).1 _ h; omega
          rw [hr] at hin
          cases hin
      · intro i hi
        obtain ⟨hun, oi, hoi, hpre⟩ := mem_ready.1 hi
        have hilt : i < ops.size := (Array.getElem?_eq_some_iff.1 hoi).1
        have hil : i ∈ l := (hmem i).2 ⟨hilt, hun⟩
        obtain ⟨pre, post, rfl⟩ := List.append_of_mem hil
        have hpw' := List.pairwise_append.1 hpw
        have hlt : ∀ k ∈ pre, k < i := fun k hk => hpw'.2.2 k hk i (.head _)
        have hgt : ∀ k ∈ post, i < k := fun k hk => (List.pairwise_cons.1 hpw'.2.1).1 k hk
        -- nothing that is still to come is waited for
        have hclD : Closed ops fun j => j = i ∨ listed.getD j false = true := fun j hj o ho e he hb => by
          rcases hj with rfl | hj
          · rw [hoi] at ho; injection ho with ho; subst ho
            exact .inr (hpre e he hb)
          · exact .inr (hcl j o ho hj e he hb)
        have hnw : ∀ k, k ≠ i → k ∈ pre ++ i :: post → waitsC (closL ops.toList #[]) i k = false := by
          intro k hki hk
          rw [Bool.eq_false_iff]
          intro hw
          rcases waitsC_step hclD i k (.inl rfl) hw with h | h
          · exact hki h
          · have := ((hmem k).1 hk)
            have hks : k < listed.size := by omega
            have h2 := this.2
            simp only [Array.getD, hks, dif_pos] at h h2
            rw [h] at h2; cases h2
        have hp : ∀ k ∈ pre, ∀ ok, ops[k]? = some ok → ok.apart ops oi = true ∧ (loud ok.op && loud oi.op) = false ∧ (loud oi.op = false → tailB ops k = false) := by
          intro k hk ok hok
          rw [List.all_eq_true] at hpair
          have h1 := hpair i (List.mem_range.2 hilt)
          rw [List.all_eq_true] at h1
          have h2 := h1 k (List.mem_range.2 (hlt k hk))
          unfold pairC at h2
          have hki : k ≠ i := by have := hlt k hk; omega
          simp only [hok, hoi, hnw k hki (by simp [hk]), Bool.or_false, Bool.and_eq_true] at h2
          refine ⟨h2.1, ?_, ?_⟩
          · have := h2.2
            cases hx : (loud ok.op && loud oi.op)
            · rfl
            · rw [hx] at this; cases this
          · intro hq
            rw [Bool.eq_false_iff]
            intro ht
            unfold tailB at ht
            rw [List.all_eq_true] at ht
            have h3 := ht i (List.mem_range.2 hilt)
            simp only [hoi, hq, Bool.or_false, Bool.or_eq_true, beq_iff_eq] at h3
            rcases h3 with h3 | h3
            · exact hki h3.symm
            · have := waitsC_step (ops := ops) (D := fun j => j ≤ k) (fun j hj o ho e he hb => by have := directB_spec hdir ho he hb; show e.on ≤ k; omega) k i (Nat.le_refl _) h3
              have := hlt k hk
              omega
        have hs := pull hoi hns post pre a w hC hp h
        have hnext : ∀ a' w', (C w' ∨ tailB ops i = true ∨ ∀ k ∈ pre ++ i :: post, ∀ o, ops[k]? = some o → loud o.op = true) → wpMix P ops C Q (pre ++ post) a' w' → wpAny P .any ops Q' n (listed.setIfInBounds i true) a' w' := by
          intro a' w' hC' hh
          have his : i < listed.size := by omega
          have hC' : C w' ∨ ∀ k ∈ pre ++ post, ∀ o, ops[k]? = some o → loud o.op = true := by
            rcases hC' with h | h | h
            · exact .inl h
            · refine .inr fun k hk o ho => ?_
              have hki : k ≠ i := by
                rcases List.mem_append.1 hk with h | h
                · have := hlt k h; omega
                · have := hgt k h; omega
              have hkl : k ∈ pre ++ i :: post := by
                rcases List.mem_append.1 hk with h | h
                · simp [h]
                · simp [h]
              unfold tailB at h
              rw [List.all_eq_true] at h
              have h3 := h k (List.mem_range.2 ((hmem k).1 hkl).1)
              simp only [ho, hnw k hki hkl, Bool.or_false, Bool.or_eq_true, beq_iff_eq] at h3
              exact h3.resolve_left hki
            · exact .inr fun k hk => h k (by
                rcases List.mem_append.1 hk with h | h
                · simp [h]
                · simp [h])
          refine ih (pre ++ post) _ a' w' (by simp at hn ⊢; omega) ?_ ?_ (by simp [hsz]) ?_ hC' hh
          · exact List.pairwise_append.2 ⟨hpw'.1, (List.pairwise_cons.1 hpw'.2.1).2, fun x hx y hy => hpw'.2.2 x hx y (.tail _ hy)⟩
          · intro j
            have hj := hmem j
            by_cases hji : j = i
            · subst hji
              simp only [Array.getD, Array.size_setIfInBounds, his, dif_pos]
              constructor
              · intro hh
                rcases List.mem_append.1 hh with h | h
                · have := hlt j h; omega
                · have := hgt j h; omega
              · intro hh; simp at hh
            · rw [getD_set_ne true (Ne.symm hji)]
              rw [← hj]
              simp [hji]
          · intro j o ho hj e he hb
            have gset : ∀ k, (listed.setIfInBounds i true).getD k false = true ↔ k = i ∨ listed.getD k false = true := by
              intro k
              by_cases hki : k = i
              · subst hki; simp [Array.getD, his]
              · rw [getD_set_ne false (Ne.symm hki)]; simp [hki]
            rw [gset] at hj ⊢
            rcases hj with rfl | hj
            · rw [hoi] at ho; injection ho with ho; subst ho
              exact .inr (hpre e he hb)
            · exact .inr (hcl j o ho hj e he hb)
        unfold stepMix at hs
        unfold wpOp
        simp only [hoi] at hs ⊢
        split
        · rename_i hw
          rw [if_pos hw] at hs
          left
          split at hs
          · exact hs.wp fun v w' hh => hnext _ _ (hh.1.imp id .inl) hh.2
          · rename_i hlo
            obtain ⟨v, hv, hh⟩ := hs
            have hCw : C w := hC.resolve_right fun hh => hlo (hh i (by simp) oi hoi)
            exact (runsTo_value (hv w hCw) (k := fun u w' => u = v ∧ w' = w) ⟨rfl, rfl⟩).wp fun u w' ⟨hu, hw'⟩ => by subst hu; subst hw'; exact hnext _ _ (.inl hCw) hh
        · rename_i hw
          rw [if_neg hw] at hs
          exact hnext _ _ (hC.imp id .inr) hs
  intro l listed a w hpw hmem hsz hcl hC h
  exact key _ l listed a w rfl hpw hmem hsz hcl hC h

theorem region_mix {id : Nat} {Q : Act → World → Prop} {Q' : Exit → Act → World → Prop} (hQ : ∀ a w, Q a w → Q' .normal a w) (hf : P.follows .mixedOrders = true) (hns : Region.noSelect ops = true) (hm : mixB ops = true)
    {a : Act} {w : World} (hC : C { w with drawn := w.drawn + 1 }) (h : wpMix P ops C Q (List.range ops.size) a { w with drawn := w.drawn + 1 }) : (Code.region id ops true).wp P Q' a w := by
  refine wp_region_any hf ?_
  have := any_of_mix (P := P) (C := C) hQ hns hm (List.range ops.size) (Array.replicate ops.size false) a _ List.pairwise_lt_range (fun j => by
    simp only [List.mem_range]
    constructor
    · intro hj; exact ⟨hj, by simp [Array.getD, hj]⟩
    · intro hj; exact hj.1) (by simp) (fun j o ho hj => by
      have hjs : j < ops.size := (Array.getElem?_eq_some_iff.1 ho).1
      simp [Array.getD, hjs] at hj) (.inl hC) h
  simpa using this
end mix

/-- Frames that differ at some slots alone. -/
def Agree (M : List Nat) (f g : Fr) : Prop := ∀ t, ¬ t ∈ M → f t = g t
theorem Agree.refl (M : List Nat) (f : Fr) : Agree M f f := fun _ _ => rfl
theorem Agree.trans {M : List Nat} {f g h : Fr} (a : Agree M f g) (b : Agree M g h) : Agree M f h := fun t ht => (a t ht).trans (b t ht)
theorem Agree.mono {M M' : List Nat} {f g : Fr} (a : Agree M f g) (h : ∀ t, t ∈ M → t ∈ M') : Agree M' f g := fun t ht => a t fun hh => ht (h t hh)
theorem Agree.puto {M : List Nat} {N : Nat} {f : Fr} {d : Option Nat} {v : Value} (h : ∀ x, d = some x → x ∈ M) : Agree M (puto N f d v) f := by
  intro t ht
  cases d with
  | none => rfl
  | some d =>
    have hne : t ≠ d := fun e => ht (e ▸ h d rfl)
    have : Nat.beq t d = false := by
      rw [Bool.eq_false_iff]; intro hh; exact hne (Nat.eq_of_beq_eq_true hh)
    simp [Dk.puto, upd, this]
def dsts (l : List Oper) : List Nat := l.filterMap (·.dst)

/-- A region that draws its order. -/
def drawK (P : Program) (N : Nat) (ops : Array Oper) (k : Fr → World → Prop) (f : Fr) (w : World) : Prop :=
  ∀ a, R N a f → ∀ id Q, (∀ a' f' w', R N a' f' → Agree (dsts ops.toList) f' f → k f' w' → Q .normal a' w') → (Code.region id ops true).wp P Q a w

theorem yielded_eq {N : Nat} {a : Act} {f : Fr} (hR : R N a f) (ops : Array Oper) (j d : Nat) (hd : (ops[j]?).bind (·.dst) = some d) :
    yielded ops a.tmps j = match f d with | .bool b => some b | _ => none := by
  have hg := hR.get d
  unfold yielded
  simp only [hd, Option.bind_some]
  by_cases hs : d < a.tmps.size
  · simp only [Array.getD, hs, dif_pos] at hg
    rw [Array.getElem?_eq_getElem hs]
    have hg' : a.tmps[d] = f d := hg
    rw [hg']
    cases f d <;> rfl
  · simp only [Array.getD, hs, dif_neg, not_false_eq_true] at hg
    rw [Array.getElem?_eq_none (by omega), ← hg]
    rfl

theorem andThen_value {α : Type} {r : Result α} {g : α → Value} {n : Next} {w' : World} (h : (r.andThen fun a w => Result.ok (Next.value (g a)) w) = .ok n w') : ∃ v, n = .value v := by
  cases r with
  | ok a w => simp at h; exact ⟨_, h.1.symm⟩
  | halt x w => simp [Result.andThen] at h

theorem quiet_value {P : Program} {o : Oper} (hq : loud o.op = false) (ρ : Operand → Value) (w : World) {n : Next} {w' : World} (h : (execOp ρ o).run P w = .ok n w') : ∃ v, n = .value v := by
  obtain ⟨dst, op, ty, pos, after, guard⟩ := o
  have val : ∀ {s : Sem Value}, ((do let v ← s; pure (Next.value v) : Sem Next).run P w = .ok n w') → ∃ v, n = .value v := by
    intro s hs
    rw [Sem.run_bind] at hs
    exact andThen_value (g := fun v => v) hs
  cases op <;> simp only [loud, Bool.true_eq_false] at hq
  case move x => simp [execOp] at h; exact ⟨_, h.1.symm⟩
  case assign x => simp [execOp] at h; exact ⟨_, h.1.symm⟩
  case pick c a b =>
    simp only [execOp, Sem.run_bind] at h
    exact andThen_value h
  case load t x => exact val h
  case nilCheck x =>
    simp only [execOp] at h
    split at h
    · simp [runtimePanic] at h
    · simp [runtimePanic] at h
    · simp [runtimePanic] at h
    · split at h
      · simp [runtimePanic] at h
      · rw [Sem.run_bind] at h
        simp only [run_program, Result.andThen_ok, Sem.run_bind] at h
        generalize (nilAhead _ _ _ _).run P w = r at h
        cases r with
        | halt x w => simp [Result.andThen] at h
        | ok a w2 =>
          simp only [Result.andThen_ok] at h
          split at h
          · simp at h
          · simp at h; exact ⟨_, h.1.symm⟩
      · simp at h; exact ⟨_, h.1.symm⟩
    · simp at h; exact ⟨_, h.1.symm⟩
  case binOp a b c d e => exact val h
  case unOp a b c => exact val h
  case convert a b c => exact val h
  case makeFunc a b c => exact val h
  case build a b => exact val h
  case slice a b c d e => exact val h
  case fieldAddr a b c => exact val h
  case field a b c => exact val h
  case indexAddr a b c => exact val h
  case index a b c => exact val h
  case lookup a b c d => exact val h
  case extract a b => exact val h
  case call c =>
    obtain ⟨callee, args, ats⟩ := c
    cases callee with
    | value f => simp only [Bool.true_eq_false] at hq
    | invoke f m => simp only [Bool.true_eq_false] at hq
    | builtin b =>
      cases b <;> simp only [Bool.true_eq_false] at hq <;> simp only [execOp, resolve, invoke, builtin] at h <;> exact val h

def qK (C : World → Prop) (step : World → (Value → World → Prop) → Prop) (k : Value → Prop) : Prop := ∃ v, (∀ w, C w → step w fun u w' => u = v ∧ w' = w) ∧ k v
theorem quiet {C : World → Prop} {step : World → (Value → World → Prop) → Prop} {k : Value → Prop} (v : Value) (h : ∀ w, C w → step w fun u w' => u = v ∧ w' = w) (hk : k v) : qK C step k := ⟨v, h, hk⟩

def qopK (P : Program) (C : World → Prop) (op : Op) (ty : TypeId) (f : Fr) (k : Value → Prop) : Prop :=
  match op with
  | .move x | .assign x => force (ev f x) k
  | .pick c a b =>
    match ev f c with
    | .bool t => condB t (force (ev f a) k) (force (ev f b) k)
    | _ => False
  | .nilCheck x =>
    match ev f x with
    | .pointer (some a) => k (.pointer (some a))
    | _ => qK C (fun w k' => opV P op ty f w k') k
  | .binOp o t x y u =>
    match binV o (ev f x) (ev f y) with
    | some v => k v
    | none => qK C (fun w k' => opV P (.binOp o t x y u) ty f w k') k
  | .unOp o t x =>
    match o, ev f x with
    | .not, .bool b => k (.bool !b)
    | _, _ => qK C (fun w k' => opV P (.unOp o t x) ty f w k') k
  | .extract x i =>
    match ev f x with
    | .tuple ⟨vs⟩ => match vs[i]? with | some v => force v k | none => False
    | _ => False
  | op => qK C (fun w k' => opV P op ty f w k') k

theorem qK_sound {P : Program} {C : World → Prop} {o : Oper} {a : Act} {f : Fr} {N : Nat} (hR : R N a f) (hq : loud o.op = false) {k : Value → Prop}
    (h : qK C (fun w k' => opV P o.op o.type f w k') k) : ∃ v, quietE P C o a v ∧ k v := by
  obtain ⟨v, h1, h2⟩ := h
  refine ⟨v, fun w hw => ?_, h2⟩
  have h3 := opV_sound o (h1 w hw)
  rw [← hR.eval] at h3
  unfold runsTo at h3
  split at h3
  · rename_i u w' hr; rw [hr, h3.1, h3.2]
  · rename_i w' hr; obtain ⟨u, hu⟩ := quiet_value hq _ _ hr; cases hu
  · rename_i g as w' hr; obtain ⟨u, hu⟩ := quiet_value hq _ _ hr; cases hu
  · exact h3.elim

theorem qopK_sound {P : Program} {C : World → Prop} {o : Oper} {a : Act} {f : Fr} {N : Nat} (hR : R N a f) (hq : loud o.op = false) {k : Value → Prop}
    (h : qopK P C o.op o.type f k) : ∃ v, quietE P C o a v ∧ k v := by
  have gen : ∀ v, (∀ w, opV P o.op o.type f w fun u w' => u = v ∧ w' = w) → k v → ∃ v, quietE P C o a v ∧ k v :=
    fun v h1 h2 => qK_sound hR hq ⟨v, fun w _ => h1 w, h2⟩
  obtain ⟨dst, op, ty, pos, after, guard⟩ := o
  cases op <;> simp only [qopK] at h
  case move x => rw [force_eq] at h; exact gen _ (fun w => by simp [opV, force_eq]) h
  case assign x => rw [force_eq] at h; exact gen _ (fun w => by simp [opV, force_eq]) h
  case pick c x y =>
    split at h
    · rename_i t hc
      rw [condB_eq] at h
      cases t
      · simp [force_eq] at h; exact gen _ (fun w => by simp [opV, hc, condB_eq, force_eq]) h
      · simp [force_eq] at h; exact gen _ (fun w => by simp [opV, hc, condB_eq, force_eq]) h
    · exact h.elim
  case nilCheck x =>
    split at h
    · rename_i ad hx; exact gen _ (fun w => by simp [opV, hx]) h
    · exact qK_sound hR hq h
  case binOp op t x y u =>
    split at h
    · rename_i v hv; exact gen _ (fun w => by simp [opV, hv]) h
    · exact qK_sound hR hq h
  case unOp op t x =>
    split at h
    · rename_i b hx; exact gen _ (fun w => by simp [opV, hx]) h
    · exact qK_sound hR hq h
  case extract x i =>
    split at h
    · rename_i vs hx
      split at h
      · rename_i v hv; rw [force_eq] at h; exact gen _ (fun w => by simp [opV, hx, hv, force_eq]) h
      · exact h.elim
    · exact h.elim
  all_goals exact qK_sound hR hq h

/-- The mixed walk of a region that draws its order. -/
def mixK (P : Program) (N : Nat) (C : World → Prop) (ops : Array Oper) (k : Fr → World → Prop) : Nat → List Oper → Fr → World → Prop
  | _, [], f, w => k f w
  | s, ⟨dst, op, ty, _, _, none⟩ :: rest, f, w =>
    match loud op with
    | true => opV P op ty f w fun v w' => (C w' ∨ tailB ops s = true) ∧ mixK P N C ops k (s + 1) rest (puto N f dst v) w'
    | false => qopK P C op ty f fun v => mixK P N C ops k (s + 1) rest (puto N f dst v) w
  | s, ⟨dst, op, ty, _, _, some (j, want)⟩ :: rest, f, w =>
    match (ops[j]?).bind (·.dst) with
    | some d =>
      match f d with
      | .bool b =>
        match want, loud op with
        | true, true => condB b (opV P op ty f w fun v w' => (C w' ∨ tailB ops s = true) ∧ mixK P N C ops k (s + 1) rest (puto N f dst v) w') (mixK P N C ops k (s + 1) rest (puto N f dst undef) w)
        | true, false => condB b (qopK P C op ty f fun v => mixK P N C ops k (s + 1) rest (puto N f dst v) w) (mixK P N C ops k (s + 1) rest (puto N f dst undef) w)
        | false, true => condB b (mixK P N C ops k (s + 1) rest (puto N f dst undef) w) (opV P op ty f w fun v w' => (C w' ∨ tailB ops s = true) ∧ mixK P N C ops k (s + 1) rest (puto N f dst v) w')
        | false, false => condB b (mixK P N C ops k (s + 1) rest (puto N f dst undef) w) (qopK P C op ty f fun v => mixK P N C ops k (s + 1) rest (puto N f dst v) w)
      | _ => mixK P N C ops k (s + 1) rest (puto N f dst undef) w
    | none => mixK P N C ops k (s + 1) rest (puto N f dst undef) w

theorem mixK_sound {P : Program} {N : Nat} {C : World → Prop} {ops : Array Oper} {k : Fr → World → Prop} : ∀ (l : List Oper) (s : Nat) (f : Fr) (w : World) (a : Act),
    (∀ j, j < l.length → l[j]? = ops[s + j]?) → R N a f → mixK P N C ops k s l f w → wpMix P ops C (fun a w => ∃ f, R N a f ∧ k f w) (List.range' s l.length) a w := by
  intro l
  induction l with
  | nil => intro s f w a _ hR h; exact ⟨f, hR, h⟩
  | cons o rest ih =>
    intro s f w a hl hR h
    have h0 : ops[s]? = some o := by have := hl 0 (by simp); simpa using this.symm
    have hl' : ∀ j, j < rest.length → rest[j]? = ops[s + 1 + j]? := fun j hj => by
      have := hl (j + 1) (by simp; omega)
      simpa [Nat.add_assoc, Nat.add_comm 1 j] using this
    have next : ∀ v w', mixK P N C ops k (s + 1) rest (puto N f o.dst v) w' → wpMix P ops C (fun a w => ∃ f, R N a f ∧ k f w) (List.range' (s + 1) rest.length) (a.put o.dst v) w' :=
      fun v w' hh => ih (s + 1) _ _ _ hl' (hR.put _ _) hh
    have run1 : (opV P o.op o.type f w fun v w' => (C w' ∨ tailB ops s = true) ∧ mixK P N C ops k (s + 1) rest (puto N f o.dst v) w') →
        runsTo P o a.eval w fun v w' => (C w' ∨ tailB ops s = true) ∧ wpMix P ops C (fun a w => ∃ f, R N a f ∧ k f w) (List.range' (s + 1) rest.length) (a.put o.dst v) w' := by
      intro hh
      have := opV_sound o hh
      rw [← hR.eval] at this
      exact this.mono fun v w' hv => ⟨hv.1, next _ _ hv.2⟩
    have run2 : loud o.op = false → (qopK P C o.op o.type f fun v => mixK P N C ops k (s + 1) rest (puto N f o.dst v) w) →
        ∃ v, quietE P C o a v ∧ wpMix P ops C (fun a w => ∃ f, R N a f ∧ k f w) (List.range' (s + 1) rest.length) (a.put o.dst v) w := by
      intro hq hh
      obtain ⟨v, hv, hh⟩ := qopK_sound hR hq hh
      exact ⟨v, hv, next _ _ hh⟩
    simp only [List.length_cons, List.range'_succ, wpMix, h0]
    obtain ⟨dst, op, ty, pos, after, guard⟩ := o
    cases guard with
    | none =>
      simp only [Region.wanted, if_true]
      simp only [mixK] at h
      cases hlo : loud op with
      | true => simp only [hlo] at h; rw [if_pos rfl]; exact run1 h
      | false => simp only [hlo] at h; rw [if_neg (by simp)]; exact run2 hlo h
    | some jw =>
      obtain ⟨j, want⟩ := jw
      simp only [mixK] at h
      simp only [Region.wanted]
      cases hd : (ops[j]?).bind (·.dst) with
      | none =>
        simp only [hd] at h
        have : yielded ops a.tmps j = none := by unfold yielded; simp [hd]
        simp [this]
        exact next _ _ h
      | some d =>
        simp only [hd] at h
        have hy := yielded_eq hR ops j d hd
        cases hfd : f d with
        | bool b =>
          simp only [hfd] at h hy
          cases hlo : loud op <;> cases want <;> cases b <;> simp [condB_eq, hlo] at h <;> simp [hy] <;>
            first | exact run1 h | exact run2 hlo h | exact next _ _ h
        | _ => simp only [hfd] at h hy; simp [hy]; exact next _ _ h

theorem qopK_mono {P : Program} {C : World → Prop} {op : Op} {ty : TypeId} {f : Fr} {k k' : Value → Prop} (hk : ∀ v, k v → k' v) (h : qopK P C op ty f k) : qopK P C op ty f k' := by
  have hq : ∀ {step : World → (Value → World → Prop) → Prop}, qK C step k → qK C step k' := fun ⟨v, h1, h2⟩ => ⟨v, h1, hk _ h2⟩
  cases op <;> simp only [qopK, force_eq] at h ⊢
  case move x => exact hk _ h
  case assign x => exact hk _ h
  case pick c a b =>
    split
    · rename_i t hc
      simp only [hc] at h
      rw [condB_eq] at h ⊢
      cases t
      · exact hk _ h
      · exact hk _ h
    · rename_i hc
      split at h
      · rename_i t ht; exact absurd ht (hc t)
      · exact h
  case nilCheck x =>
    split
    · rename_i a hx; simp only [hx] at h; exact hk _ h
    · rename_i hx
      split at h
      · rename_i a ha; exact absurd ha (hx a)
      · exact hq h
  case binOp op t x y u =>
    split
    · rename_i v hv; simp only [hv] at h; exact hk _ h
    · rename_i hv; simp only [hv] at h; exact hq h
  case unOp op t x =>
    split
    · rename_i b hb; simp only [hb] at h; exact hk _ h
    · rename_i hb
      split at h
      · rename_i b hb'; exact (hb b rfl hb').elim
      · exact hq h
  case extract x i =>
    split
    · rename_i vs hx
      simp only [hx] at h
      split
      · rename_i v hv; simp only [hv] at h; exact hk _ h
      · rename_i hv; simp only [hv] at h
    · rename_i hx
      split at h
      · rename_i vs hvs; exact absurd hvs (hx vs)
      · exact h
  all_goals exact hq h

theorem mixK_agree {P : Program} {N : Nat} {C : World → Prop} {ops : Array Oper} {k : Fr → World → Prop} (D : List Nat) : ∀ (s : Nat) (l : List Oper) (f : Fr) (w : World), (∀ x ∈ dsts l, x ∈ D) →
    mixK P N C ops k s l f w → mixK P N C ops (fun f' w' => Agree D f' f ∧ k f' w') s l f w := by
  have gen : ∀ (l : List Oper) (s : Nat) (f0 f : Fr) (w : World), Agree D f f0 → (∀ x ∈ dsts l, x ∈ D) → mixK P N C ops k s l f w → mixK P N C ops (fun f' w' => Agree D f' f0 ∧ k f' w') s l f w := by
    intro l
    induction l with
    | nil => intro s f0 f w ha _ h; exact ⟨ha, h⟩
    | cons o rest ih =>
      intro s f0 f w ha hD h
      obtain ⟨dst, op, ty, pos, after, guard⟩ := o
      have hD' : ∀ x ∈ dsts rest, x ∈ D := fun x hx => hD x (by
        cases dst with
        | none => simpa [dsts] using hx
        | some d => simp only [dsts, List.filterMap_cons]; exact .tail _ hx)
      have hd : ∀ x, dst = some x → x ∈ D := fun x hx => hD x (by subst hx; simp [dsts])
      have nx : ∀ v w', mixK P N C ops k (s + 1) rest (puto N f dst v) w' → mixK P N C ops (fun f' w' => Agree D f' f0 ∧ k f' w') (s + 1) rest (puto N f dst v) w' :=
        fun v w' hh => ih (s + 1) f0 _ _ ((Agree.puto hd).trans ha) hD' hh
      have r1 : (opV P op ty f w fun v w' => (C w' ∨ tailB ops s = true) ∧ mixK P N C ops k (s + 1) rest (puto N f dst v) w') → opV P op ty f w fun v w' => (C w' ∨ tailB ops s = true) ∧ mixK P N C ops (fun f' w' => Agree D f' f0 ∧ k f' w') (s + 1) rest (puto N f dst v) w' :=
        fun hh => opV_mono (fun v w' hv => ⟨hv.1, nx _ _ hv.2⟩) hh
      have r2 : (qopK P C op ty f fun v => mixK P N C ops k (s + 1) rest (puto N f dst v) w) → qopK P C op ty f fun v => mixK P N C ops (fun f' w' => Agree D f' f0 ∧ k f' w') (s + 1) rest (puto N f dst v) w :=
        fun hh => qopK_mono (fun v hv => nx _ _ hv) hh
      cases guard with
      | none =>
        simp only [mixK] at h ⊢
        cases hlo : loud op <;> simp only [hlo] at h ⊢
        · exact r2 h
        · exact r1 h
      | some jw =>
        obtain ⟨j, want⟩ := jw
        simp only [mixK] at h ⊢
        cases hdj : (ops[j]?).bind (·.dst) with
        | none => simp only [hdj] at h ⊢; exact nx _ _ h
        | some d =>
          simp only [hdj] at h ⊢
          cases hfd : f d with
          | bool b =>
            simp only [hfd] at h ⊢
            cases hlo : loud op <;> cases want <;> cases b <;> simp only [hlo, condB_eq, if_true, if_false, Bool.false_eq_true] at h ⊢ <;> first | exact r1 h | exact r2 h | exact nx _ _ h
          | _ => simp only [hfd] at h ⊢; exact nx _ _ h
  exact fun s l f w hD h => gen l s f f w (.refl _ _) hD h

theorem draw_mix {P : Program} {N : Nat} {ops : Array Oper} {k : Fr → World → Prop} {f : Fr} {w : World} (C : World → Prop) (hf : P.follows .mixedOrders = true)
    (hB : (Region.noSelect ops && mixB ops) = true) (hC : C w.drew) (h : mixK P N C ops k 0 ops.toList f w.drew) : drawK P N ops k f w := by
  intro a hR id Q hQ
  simp only [Bool.and_eq_true] at hB
  refine region_mix (C := C) (Q := fun a w => ∃ f', R N a f' ∧ (Agree (dsts ops.toList) f' f ∧ k f' w)) (fun a w ⟨f, hR, hk⟩ => hQ _ _ _ hR hk.1 hk.2) hf hB.1 hB.2 hC ?_
  have := mixK_sound ops.toList 0 f w.drew a (fun j _ => by simp) hR (mixK_agree (dsts ops.toList) 0 ops.toList f w.drew (fun _ h => h) h)
  simpa [List.range_eq_range'] using this

attribute [irreducible] qK drawK

/-- A loop. -/
def loopK (body : (Fr → World → Prop) → Fr → World → Prop) (f : Fr) (w : World) : Prop :=
  ∃ J : Nat → Fr → World → Prop, (∃ n, J n f w) ∧ ∀ n f w, J n f w → body (fun f' w' => ∃ m, m < n ∧ J m f' w') f w

def condK (v : Value) (p q : Prop) : Prop := match v with | .bool b => condB b p q | _ => False

def W (P : Program) (N : Nat) : Code → (Fr → World → Prop) → (Nat → Fr → World → Prop) → (Fr → World → Prop) → Fr → World → Prop
  | .skip, kn, _, _, f, w => kn f w
  | .label _, kn, _, _, f, w => kn f w
  | .seq a b, kn, kx, kr, f, w => W P N a (fun f w => W P N b kn kx kr f w) kx kr f w
  | .cond c x y, kn, kx, kr, f, w => condK (ev f c) (W P N x kn kx kr f w) (W P N y kn kx kr f w)
  | .block id c, kn, kx, kr, f, w => W P N c kn (fun j f w => bif Nat.beq j id then kn f w else kx j f w) kr f w
  | .exit id, _, kx, _, f, w => kx id f w
  | .ret, _, _, kr, f, w => kr f w
  | .loop c, _, kx, kr, f, w => loopK (fun kn f w => W P N c kn kx kr f w) f w
  | .scope c, kn, kx, kr, f, w => W P N c kn kx kr f w
  | .region _ ops draw, kn, _, _, f, w => match draw with
    | true => drawK P N ops kn f w
    | false => opsK P N ops kn ops.toList f w
  | _, _, _, _, _, _ => False

def postOf (N : Nat) (kn : Fr → World → Prop) (kx : Nat → Fr → World → Prop) (kr : Fr → World → Prop) : Exit → Act → World → Prop
  | .normal, a, w => ∃ f, R N a f ∧ kn f w
  | .exit id, a, w => ∃ f, R N a f ∧ kx id f w
  | .ret, a, w => ∃ f, R N a f ∧ kr f w
  | _, _, _ => False

theorem opsK_sound {P : Program} {N : Nat} {ops : Array Oper} {k : Fr → World → Prop} {Q : Exit → Act → World → Prop} (hk : ∀ a' f' w', R N a' f' → k f' w' → Q .normal a' w') :
    ∀ (l : List Oper) (a : Act) (f : Fr) (w : World), R N a f → opsK P N ops k l f w → wpList P ops Q l a w := by
  intro l
  induction l with
  | nil => intro a f w hR h; exact hk _ _ _ hR h
  | cons o rest ih =>
    intro a f w hR h
    have run : operK P N o.dst o.op o.type f w (opsK P N ops k rest) → o.wp P a w (wpList P ops Q rest) Q :=
      fun hh => operK_sound hR (fun a' f' w' hR' h' => ih _ _ _ hR' h') hh
    have skip : opsK P N ops k rest (puto N f o.dst undef) w → wpList P ops Q rest (a.put o.dst undef) w :=
      fun hh => ih _ _ _ (hR.put _ _) hh
    obtain ⟨dst, op, ty, pos, after, guard⟩ := o
    unfold wpList
    cases guard with
    | none =>
      simp only [Region.wanted, if_true]
      exact .inl (run h)
    | some jw =>
      obtain ⟨j, want⟩ := jw
      simp only [opsK] at h
      simp only [Region.wanted]
      cases hd : (ops[j]?).bind (·.dst) with
      | none =>
        simp only [hd] at h
        have : yielded ops a.tmps j = none := by unfold yielded; simp [hd]
        simp [this]
        exact skip h
      | some d =>
        simp only [hd] at h
        have hy := yielded_eq hR ops j d hd
        cases hfd : f d with
        | bool b =>
          simp only [hfd] at h hy
          cases want <;> cases b <;> simp [condB_eq] at h <;> simp [hy] <;> first | exact .inl (run h) | exact skip h
        | _ => simp only [hfd] at h hy; simp [hy]; exact skip h

theorem least_of {p : Nat → Prop} (h : ∃ n, p n) : ∃ n, p n ∧ ∀ m, p m → n ≤ m := by
  obtain ⟨n, hn⟩ := h
  induction n using Nat.strongRecOn with
  | _ n ih =>
    by_cases hm : ∃ m, m < n ∧ p m
    · obtain ⟨m, hlt, hp⟩ := hm; exact ih m hlt hp
    · exact ⟨n, hn, fun m hp => Nat.le_of_not_lt fun hlt => hm ⟨m, hlt, hp⟩⟩

theorem W_sound {P : Program} {N : Nat} (c : Code) : ∀ (kn : Fr → World → Prop) (kx : Nat → Fr → World → Prop) (kr : Fr → World → Prop) (f : Fr) (w : World) (a : Act),
    R N a f → W P N c kn kx kr f w → c.wp P (postOf N kn kx kr) a w := by
  induction c with
  | skip => intro kn kx kr f w a hR h; exact wp_skip ⟨f, hR, h⟩
  | label l => intro kn kx kr f w a hR h; exact wp_label ⟨f, hR, h⟩
  | exit id => intro kn kx kr f w a hR h; exact wp_exit ⟨f, hR, h⟩
  | ret => intro kn kx kr f w a hR h; exact wp_ret ⟨f, hR, h⟩
  | goto l => intro kn kx kr f w a hR h; exact h.elim
  | refuse y => intro kn kx kr f w a hR h; exact h.elim
  | scope c ih =>
    intro kn kx kr f w a hR h
    refine wp_scope_straight (Code.wp_mono ?_ (ih _ _ _ _ _ _ hR h))
    intro e a w hq
    cases e with
    | normal => exact hq
    | exit id => exact hq
    | goto l => exact hq.elim
    | ret => exact hq
    | panic ch => exact hq.elim
    | outgrown => exact hq.elim
  | rangeFunc x p s b ih1 ih2 => intro kn kx kr f w a hR h; exact h.elim
  | seq x y ihx ihy =>
    intro kn kx kr f w a hR h
    refine wp_seq (Code.wp_mono ?_ (ihx _ _ _ _ _ _ hR h))
    intro e a w hq
    cases e with
    | normal => obtain ⟨f', hR', h'⟩ := hq; exact ihy _ _ _ _ _ _ hR' h'
    | exit id => exact hq
    | goto l => exact hq.elim
    | ret => exact hq
    | panic ch => exact hq.elim
    | outgrown => exact hq.elim
  | cond c x y ihx ihy =>
    intro kn kx kr f w a hR h
    simp only [W, condK] at h
    split at h
    · rename_i b hb
      have hc : a.eval c = .bool b := by rw [hR.eval, hb]
      rw [condB_eq] at h
      refine wp_cond hc ?_
      cases b
      · exact ihy _ _ _ _ _ _ hR (by simpa using h)
      · exact ihx _ _ _ _ _ _ hR (by simpa using h)
    · exact h.elim
  | block id c ih =>
    intro kn kx kr f w a hR h
    refine wp_block (Code.wp_mono ?_ (ih _ _ _ _ _ _ hR h))
    intro e a w hq
    cases e with
    | normal => exact hq
    | exit j =>
      obtain ⟨f', hR', h'⟩ := hq
      simp only [Exit.inBlock]
      by_cases hj : j = id
      · subst hj
        rw [if_pos rfl]
        have : Nat.beq j j = true := Nat.beq_refl j
        rw [this] at h'
        exact ⟨f', hR', h'⟩
      · rw [if_neg hj]
        have : Nat.beq j id = false := by
          rw [Bool.eq_false_iff]; intro hh; exact hj (Nat.eq_of_beq_eq_true hh)
        rw [this] at h'
        exact ⟨f', hR', h'⟩
    | goto l => exact hq.elim
    | ret => exact hq
    | panic ch => exact hq.elim
    | outgrown => exact hq.elim
  | loop c ih =>
    intro kn kx kr f w a hR h
    obtain ⟨J, ⟨n0, h0⟩, hstep⟩ := h
    classical
    let I : Act → World → Prop := fun a w => ∃ n f, R N a f ∧ J n f w
    let μ : Act → World → Nat := fun a w => if h : ∃ n, ∃ f, R N a f ∧ J n f w then Classical.choose (least_of h) else 0
    refine wp_loop I μ ⟨n0, f, hR, h0⟩ ?_
    intro a w hI
    have hex : ∃ n, ∃ f, R N a f ∧ J n f w := hI
    obtain ⟨⟨f1, hR1, hJ1⟩, _⟩ := Classical.choose_spec (least_of hex)
    refine Code.wp_mono ?_ (ih _ _ _ _ _ _ hR1 (hstep _ _ _ hJ1))
    intro e a' w' hq
    cases e with
    | normal =>
      obtain ⟨f', hR', m, hm, hJ'⟩ := hq
      refine ⟨⟨m, f', hR', hJ'⟩, ?_⟩
      have hex' : ∃ n, ∃ f, R N a' f ∧ J n f w' := ⟨m, f', hR', hJ'⟩
      show (if h : ∃ n, ∃ f, R N a' f ∧ J n f w' then Classical.choose (least_of h) else 0) < (if h : ∃ n, ∃ f, R N a f ∧ J n f w then Classical.choose (least_of h) else 0)
      rw [dif_pos hex', dif_pos hex]
      exact Nat.lt_of_le_of_lt ((Classical.choose_spec (least_of hex')).2 m ⟨f', hR', hJ'⟩) hm
    | exit id => exact hq
    | goto l => exact hq.elim
    | ret => exact hq
    | panic ch => exact hq.elim
    | outgrown => exact hq.elim
  | region id ops draw =>
    intro kn kx kr f w a hR h
    cases draw with
    | true => simp only [W] at h; unfold drawK at h; exact h a hR id _ fun a' f' w' hR' _ h' => ⟨f', hR', h'⟩
    | false => exact wp_region_list (opsK_sound (fun a' f' w' hR' h' => ⟨f', hR', h'⟩) _ _ _ _ hR h)

def writes : Code → List Nat
  | .seq a b => writes a ++ writes b
  | .cond _ x y => writes x ++ writes y
  | .block _ c => writes c
  | .loop c => writes c
  | .scope c => writes c
  | .region _ ops _ => dsts ops.toList
  | _ => []

theorem opsK_agree {P : Program} {N : Nat} {ops : Array Oper} {k : Fr → World → Prop} (D : List Nat) : ∀ (l : List Oper) (f0 f : Fr) (w : World), Agree D f f0 → (∀ x ∈ dsts l, x ∈ D) →
    opsK P N ops k l f w → opsK P N ops (fun f' w' => Agree D f' f0 ∧ k f' w') l f w := by
  intro l
  induction l with
  | nil => intro f0 f w ha _ h; exact ⟨ha, h⟩
  | cons o rest ih =>
    intro f0 f w ha hD h
    obtain ⟨dst, op, ty, pos, after, guard⟩ := o
    have hD' : ∀ x ∈ dsts rest, x ∈ D := fun x hx => hD x (by
      cases dst with
      | none => simpa [dsts] using hx
      | some d => simp only [dsts, List.filterMap_cons]; exact .tail _ hx)
    have hd : ∀ x, dst = some x → x ∈ D := fun x hx => hD x (by subst hx; simp [dsts])
    have nx : ∀ v w', opsK P N ops k rest (puto N f dst v) w' → opsK P N ops (fun f' w' => Agree D f' f0 ∧ k f' w') rest (puto N f dst v) w' :=
      fun v w' hh => ih f0 _ _ ((Agree.puto hd).trans ha) hD' hh
    have r1 : operK P N dst op ty f w (opsK P N ops k rest) → operK P N dst op ty f w (opsK P N ops (fun f' w' => Agree D f' f0 ∧ k f' w') rest) :=
      fun hh => opV_mono (fun v w' hv => nx _ _ hv) hh
    cases guard with
    | none => simp only [opsK] at h ⊢; exact r1 h
    | some jw =>
      obtain ⟨j, want⟩ := jw
      simp only [opsK] at h ⊢
      cases hdj : (ops[j]?).bind (·.dst) with
      | none => simp only [hdj] at h ⊢; exact nx _ _ h
      | some d =>
        simp only [hdj] at h ⊢
        cases hfd : f d with
        | bool b =>
          simp only [hfd] at h ⊢
          cases want <;> cases b <;> simp only [condB_eq, if_true, if_false, Bool.false_eq_true] at h ⊢ <;> first | exact r1 h | exact nx _ _ h
        | _ => simp only [hfd] at h ⊢; exact nx _ _ h

theorem W_mono {P : Program} {N : Nat} (c : Code) : ∀ {kn kn' : Fr → World → Prop} {kx kx' : Nat → Fr → World → Prop} {kr kr' : Fr → World → Prop} {f : Fr} {w : World},
    (∀ f w, kn f w → kn' f w) → (∀ j f w, kx j f w → kx' j f w) → (∀ f w, kr f w → kr' f w) → W P N c kn kx kr f w → W P N c kn' kx' kr' f w := by
  induction c with
  | skip => intro kn kn' kx kx' kr kr' f w h1 h2 h3 h; exact h1 _ _ h
  | label l => intro kn kn' kx kx' kr kr' f w h1 h2 h3 h; exact h1 _ _ h
  | exit id => intro kn kn' kx kx' kr kr' f w h1 h2 h3 h; exact h2 _ _ _ h
  | ret => intro kn kn' kx kx' kr kr' f w h1 h2 h3 h; exact h3 _ _ h
  | goto l => intro kn kn' kx kx' kr kr' f w h1 h2 h3 h; exact h.elim
  | refuse y => intro kn kn' kx kx' kr kr' f w h1 h2 h3 h; exact h.elim
  | scope c ih => intro kn kn' kx kx' kr kr' f w h1 h2 h3 h; exact ih h1 h2 h3 h
  | rangeFunc x p s b ih1 ih2 => intro kn kn' kx kx' kr kr' f w h1 h2 h3 h; exact h.elim
  | seq x y ihx ihy => intro kn kn' kx kx' kr kr' f w h1 h2 h3 h; exact ihx (fun f w hh => ihy h1 h2 h3 hh) h2 h3 h
  | cond c x y ihx ihy =>
    intro kn kn' kx kx' kr kr' f w h1 h2 h3 h
    simp only [W, condK] at h ⊢
    split
    · rename_i b hb
      simp only [hb] at h
      rw [condB_eq] at h ⊢
      cases b
      · exact ihy h1 h2 h3 h
      · exact ihx h1 h2 h3 h
    · rename_i hb
      split at h
      · rename_i b hb'; exact absurd hb' (hb b)
      · exact h
  | block id c ih =>
    intro kn kn' kx kx' kr kr' f w h1 h2 h3 h
    refine ih h1 (fun j f w hh => ?_) h3 h
    cases hj : Nat.beq j id <;> simp only [hj, cond_true, cond_false] at hh ⊢
    · exact h2 _ _ _ hh
    · exact h1 _ _ hh
  | loop c ih =>
    intro kn kn' kx kx' kr kr' f w h1 h2 h3 h
    obtain ⟨J, h0, hs⟩ := h
    exact ⟨J, h0, fun n f w hJ => ih (fun _ _ h => h) h2 h3 (hs n f w hJ)⟩
  | region id ops draw =>
    intro kn kn' kx kx' kr kr' f w h1 h2 h3 h
    cases draw with
    | true =>
      simp only [W] at h ⊢
      unfold drawK at h ⊢
      exact fun a hR id Q hQ => h a hR id Q fun a' f' w' hR' ha hk => hQ _ _ _ hR' ha (h1 _ _ hk)
    | false =>
      simp only [W] at h ⊢
      have gen : ∀ (l : List Oper) (f : Fr) (w : World), opsK P N ops kn l f w → opsK P N ops kn' l f w := by
        intro l
        induction l with
        | nil => intro f w h; exact h1 _ _ h
        | cons o rest ih =>
          intro f w h
          obtain ⟨dst, op, ty, pos, after, guard⟩ := o
          have r1 : operK P N dst op ty f w (opsK P N ops kn rest) → operK P N dst op ty f w (opsK P N ops kn' rest) := fun hh => opV_mono (fun v w' hv => ih _ _ hv) hh
          cases guard with
          | none => simp only [opsK] at h ⊢; exact r1 h
          | some jw =>
            obtain ⟨j, want⟩ := jw
            simp only [opsK] at h ⊢
            cases hdj : (ops[j]?).bind (·.dst) with
            | none => simp only [hdj] at h ⊢; exact ih _ _ h
            | some d =>
              simp only [hdj] at h ⊢
              cases hfd : f d with
              | bool b =>
                simp only [hfd] at h ⊢
                cases want <;> cases b <;> simp only [condB_eq, if_true, if_false, Bool.false_eq_true] at h ⊢ <;> first | exact r1 h | exact ih _ _ h
              | _ => simp only [hfd] at h ⊢; exact ih _ _ h
      exact gen _ _ _ h

/-- A piece of code turns the slots that it writes alone. -/
theorem W_agree {P : Program} {N : Nat} (c : Code) : ∀ {D : List Nat} {kn : Fr → World → Prop} {kx : Nat → Fr → World → Prop} {kr : Fr → World → Prop} {f0 f : Fr} {w : World},
    Agree D f f0 → (∀ x ∈ writes c, x ∈ D) → W P N c kn kx kr f w → W P N c (fun f' w' => Agree D f' f0 ∧ kn f' w') kx kr f w := by
  have aux : ∀ (c : Code) {D : List Nat} {kn : Fr → World → Prop} {kx : Nat → Fr → World → Prop} {kr : Fr → World → Prop} {f0 f : Fr} {w : World},
      Agree D f f0 → (∀ x ∈ writes c, x ∈ D) → W P N c kn kx kr f w → W P N c (fun f' w' => Agree D f' f0 ∧ kn f' w') (fun j f' w' => Agree D f' f0 ∧ kx j f' w') kr f w := by
    intro c
    induction c with
    | skip => intro D kn kx kr f0 f w ha _ h; exact ⟨ha, h⟩
    | label l => intro D kn kx kr f0 f w ha _ h; exact ⟨ha, h⟩
    | exit id => intro D kn kx kr f0 f w ha _ h; exact ⟨ha, h⟩
    | ret => intro D kn kx kr f0 f w ha _ h; exact h
    | goto l => intro D kn kx kr f0 f w ha _ h; exact h.elim
    | refuse y => intro D kn kx kr f0 f w ha _ h; exact h.elim
    | scope c ih => intro D kn kx kr f0 f w ha hD h; exact ih ha (fun x hx => hD x (by simpa [writes] using hx)) h
    | rangeFunc x p s b ih1 ih2 => intro D kn kx kr f0 f w ha _ h; exact h.elim
    | seq x y ihx ihy =>
      intro D kn kx kr f0 f w ha hD h
      have h' := ihx ha (fun x hx => hD x (by simp [writes, hx])) h
      exact W_mono x (fun f' w' hh => ihy hh.1 (fun x hx => hD x (by simp [writes, hx])) hh.2) (fun _ _ _ hh => hh) (fun _ _ hh => hh) h'
    | cond c x y ihx ihy =>
      intro D kn kx kr f0 f w ha hD h
      simp only [W, condK] at h ⊢
      split
      · rename_i b hb
        simp only [hb] at h
        rw [condB_eq] at h ⊢
        cases b
        · exact ihy ha (fun x hx => hD x (by simp [writes, hx])) h
        · exact ihx ha (fun x hx => hD x (by simp [writes, hx])) h
      · rename_i hb
        split at h
        · rename_i b hb'; exact absurd hb' (hb b)
        · exact h
    | block id c ih =>
      intro D kn kx kr f0 f w ha hD h
      refine W_mono c (fun _ _ hh => hh) (fun j f w hh => ?_) (fun _ _ hh => hh) (ih ha hD h)
      cases hj : Nat.beq j id <;> simp only [hj, cond_true, cond_false] at hh ⊢
      · exact hh
      · exact hh
    | loop c ih =>
      intro D kn kx kr f0 f w ha hD h
      obtain ⟨J, ⟨n0, h0⟩, hs⟩ := h
      refine ⟨fun n f w => Agree D f f0 ∧ J n f w, ⟨n0, ha, h0⟩, fun n f w hJ => ?_⟩
      exact W_mono c (fun f' w' ⟨ha', m, hm, hJ'⟩ => ⟨m, hm, ha', hJ'⟩) (fun _ _ _ hh => hh) (fun _ _ hh => hh) (ih hJ.1 hD (hs n f w hJ.2))
    | region id ops draw =>
      intro D kn kx kr f0 f w ha hD h
      cases draw with
      | true =>
        simp only [W] at h ⊢
        unfold drawK at h ⊢
        exact fun a hR id Q hQ => h a hR id Q fun a' f' w' hR' ha' hk => hQ _ _ _ hR' ha' ⟨(ha'.mono hD).trans ha, hk⟩
      | false => exact opsK_agree D _ f0 f w ha hD h
  intro D kn kx kr f0 f w ha hD h
  exact W_mono c (fun _ _ hh => hh) (fun _ _ _ hh => hh.2) (fun _ _ hh => hh) (aux c ha hD h)

/-- A frame that is known at some slots. -/
def look : List (Nat × Value) → Nat → Value → Value
  | [], _, d => d
  | (s, v) :: l, t, d => bif Nat.beq t s then v else look l t d
def mkF (l : List (Nat × Value)) (M : List Nat) (u f : Fr) : Fr := fun t => look l t (bif M.elem t then u t else f t)
/-- The slots hold these values. -/
def Has (f : Fr) : List (Nat × Value) → Prop
  | [] => True
  | (s, v) :: l => f s = v ∧ Has f l
theorem mkF_eq {l : List (Nat × Value)} {M : List Nat} {f f0 : Fr} (ha : Agree M f f0) (hl : Has f l) : f = mkF l M f f0 := by
  funext t
  have hbase : (bif M.elem t then f t else f0 t) = f t := by
    cases he : M.elem t with
    | true => rfl
    | false => simp only [cond_false]; exact (ha t (by simpa using he)).symm
  show f t = look l t (bif M.elem t then f t else f0 t)
  rw [hbase]
  induction l with
  | nil => rfl
  | cons p l ih =>
    obtain ⟨s, v⟩ := p
    obtain ⟨h1, h2⟩ := hl
    simp only [look]
    cases hb : Nat.beq t s with
    | true => rw [Nat.eq_of_beq_eq_true hb]; exact h1
    | false => exact ih h2

/-- A loop: what holds at each round's head, as a function of some datum that goes down. -/
theorem loop_rule {P : Program} {N : Nat} {c : Code} {kx : Nat → Fr → World → Prop} {kr : Fr → World → Prop} {f : Fr} {w : World}
    {γ : Type} (M : List Nat) (hM : writes c = M) (l : γ → List (Nat × Value)) (I : γ → World → Prop) (μ : γ → Nat) (x0 : γ)
    (h0 : Has f (l x0)) (hI : I x0 w)
    (step : ∀ x u w, I x w → W P N c (fun f' w' => ∃ y, μ y < μ x ∧ Has f' (l y) ∧ I y w') kx kr (mkF (l x) M u f) w) : loopK (fun kn f w => W P N c kn kx kr f w) f w := by
  subst hM
  refine ⟨fun n f' w' => Agree (writes c) f' f ∧ ∃ x, μ x = n ∧ Has f' (l x) ∧ I x w', ⟨μ x0, .refl _ _, x0, rfl, h0, hI⟩, ?_⟩
  rintro n f' w' ⟨ha, x, rfl, hl, hI'⟩
  have hs := step x f' w' hI'
  rw [← mkF_eq ha hl] at hs
  refine W_mono c (fun f2 w2 hh => ?_) (fun _ _ _ hh => hh) (fun _ _ hh => hh) (W_agree c ha (fun _ h => h) hs)
  obtain ⟨ha2, y, hlt, hl2, hI2⟩ := hh
  exact ⟨μ y, hlt, ha2, y, rfl, hl2, hI2⟩

attribute [irreducible] loopK

/-- Ways that meet again: what holds behind the first of two pieces. -/
theorem cut_rule {P : Program} {N : Nat} {a b : Code} {kn : Fr → World → Prop} {kx : Nat → Fr → World → Prop} {kr : Fr → World → Prop} {f : Fr} {w : World}
    {γ : Type} (M : List Nat) (hM : writes a = M) (l : γ → List (Nat × Value)) (I : γ → World → Prop)
    (h1 : W P N a (fun f' w' => ∃ y, Has f' (l y) ∧ I y w') kx kr f w)
    (h2 : ∀ x u w, I x w → W P N b kn kx kr (mkF (l x) M u f) w) : W P N (.seq a b) kn kx kr f w := by
  subst hM
  refine W_mono a (fun f2 w2 hh => ?_) (fun _ _ _ hh => hh) (fun _ _ hh => hh) (W_agree a (.refl _ _) (fun _ h => h) h1)
  obtain ⟨ha, y, hl, hI⟩ := hh
  have := h2 y f2 w2 hI
  rwa [← mkF_eq ha hl] at this

/-- What is handed back. -/
def resK (P : Program) (f : Fr) (w : World) (k : Value → World → Prop) : List ResultVar → List Value → Prop
  | [], acc => k (match acc with | [v] => v | vs => .tuple vs.toArray) w
  | .tmp t :: rs, acc => force (f t) fun v => resK P f w k rs (acc ++ [v])
  | .cell p t :: rs, acc => loadK P t (f p) w fun v w' => w' = w ∧ resK P f w k rs (acc ++ [v])

def frame0 (l : List Value) : Fr := fun t => l.getD t undef

end Go.Dk
namespace Go.Dk
def resF (tmps : Array Value) : ResultVar → Sem Value
  | .tmp t => pure (tmps.getD t undef)
  | .cell a t => do loadVar t (← asAddr (tmps.getD a undef))

theorem resK_run {P : Program} {N : Nat} {a : Act} {f : Fr} (hR : R N a f) {post : Value → World → Prop} {w : World} :
    ∀ (rs : List ResultVar) (acc : List Value), resK P f w post rs acc →
      ∃ vs, (rs.mapM (resF a.tmps)).run P w = .ok vs w ∧ post (match acc ++ vs with | [v] => v | vs => .tuple vs.toArray) w := by
  intro rs
  induction rs with
  | nil => intro acc h; exact ⟨[], rfl, by simpa [resK] using h⟩
  | cons r rs ih =>
    intro acc h
    cases r with
    | tmp t =>
      simp only [resK, force_eq] at h
      obtain ⟨vs, h1, h2⟩ := ih _ h
      refine ⟨f t :: vs, ?_, by simpa using h2⟩
      simp only [List.mapM_cons, resF, pure_bind, hR.get]
      rw [Sem.run_bind, h1]
      rfl
    | cell p t =>
      simp only [resK] at h
      unfold loadK at h
      obtain ⟨v, w', hr, rfl, h⟩ := h
      obtain ⟨vs, h1, h2⟩ := ih _ h
      refine ⟨v :: vs, ?_, by simpa using h2⟩
      simp only [List.mapM_cons, resF, hR.get]
      have hr2 : (do loadVar t (← asAddr (f p))).run P w' = .ok v w' := by
        unfold Instr.loadAt at hr
        cases hfp : f p with
        | pointer ad =>
          cases ad with
          | some ad => simpa [hfp, Instr.sureAddr, asAddr] using hr
          | none => simp [hfp, Instr.sureAddr, stuck, bind, Sem.bind] at hr
        | _ => simp [hfp, Instr.sureAddr, stuck, bind, Sem.bind] at hr
      rw [Sem.run_bind, hr2]
      simp only [Result.andThen_ok]
      rw [Sem.run_bind, h1]
      rfl

theorem results_run {P : Program} {N : Nat} {fn : Func} {a : Act} {f : Fr} (hR : R N a f) {post : Value → World → Prop} {w : World} {rs : List ResultVar}
    (hrs : fn.results = rs.toArray) (h : resK P f w post rs []) : ∃ v, (results fn a.tmps).run P w = .ok v w ∧ post v w := by
  obtain ⟨vs, h1, h2⟩ := resK_run hR rs [] h
  refine ⟨_, ?_, h2⟩
  have e : results fn a.tmps = (do let vs ← rs.mapM (resF a.tmps); pure (match vs with | [v] => v | vs => .tuple vs.toArray)) := by
    unfold results
    rw [hrs, List.mapM_toArray]
    simp only [map_eq_pure_bind, bind_assoc, pure_bind]
    congr 1
    funext vs
    match vs with
    | [] => rfl
    | [v] => rfl
    | v :: u :: vs => simp
  rw [e, Sem.run_bind, h1]
  simp

theorem fun_of_W {P : Program} {g : FuncId} {fn : Func} {c : Code} {args : List Value} {w : World} {post : Value → World → Prop} {N : Nat} {rs : List ResultVar}
    (hf : P.funcs[g]? = some fn) (hent : enters P g = true) (hb : fn.body = some c) (hN : fn.ntmps = N) (hrs : fn.results = rs.toArray) (hl : args.length ≤ N)
    (h : W P N c (fun f w => resK P f w post rs []) (fun _ _ _ => False) (fun f w => resK P f w post rs []) (frame0 args) w) : Fun P g args w post := by
  refine ⟨hent, calls_of_wp hf hb ?_⟩
  have hR : R N { tmps := args.toArray ++ Array.replicate (fn.ntmps - args.toArray.size) undef, defers := [] } (frame0 args) := by
    subst hN
    refine ⟨rfl, by simp; omega, fun t => ?_⟩
    simp only [frame0, Array.getD_eq_getD_getElem?, List.getD_eq_getElem?_getD]
    by_cases ht : t < args.length
    · simp [Array.getElem?_append, ht]
    · simp [Array.getElem?_append, ht, Array.getElem?_replicate]
      split <;> simp
  refine Code.wp_mono ?_ (W_sound c _ _ _ _ _ _ hR h)
  intro e a w' hq
  cases e with
  | normal => obtain ⟨f, hR, h⟩ := hq; obtain ⟨v, h1, h2⟩ := results_run hR hrs h; exact ⟨hR.defers, v, h1, v, rfl, h2⟩
  | ret => obtain ⟨f, hR, h⟩ := hq; obtain ⟨v, h1, h2⟩ := results_run hR hrs h; exact ⟨hR.defers, v, h1, v, rfl, h2⟩
  | exit id => obtain ⟨f, hR, h⟩ := hq; exact h.elim
  | goto l => exact hq.elim
  | panic ch => exact hq.elim
  | outgrown => exact hq.elim
end Go.Dk
end

section
/- Drawn regions whose loud operations are not all ordered: every order of the loud ones is walked. -/
namespace Go.Dk
open Go

/-- A schedule that a region may draw, from what is listed on. -/
def validL (ops : Array Oper) : Array Bool → List Nat → Prop
  | listed, [] => Region.ready .any ops listed = []
  | listed, i :: r => i ∈ Region.ready .any ops listed ∧ validL ops (listed.setIfInBounds i true) r

theorem any_list {P : Program} {ops : Array Oper} {Q : Exit → Act → World → Prop} : ∀ (σ : List Nat) (fuel : Nat) (listed : Array Bool) (a : Act) (w : World), σ.length ≤ fuel → validL ops listed σ →
    wpAny P .any ops Q fuel listed a w → wpOps P ops Q σ a w := by
  intro σ
  induction σ with
  | nil =>
    intro fuel listed a w _ hv h
    cases fuel with
    | zero => simpa [wpOps] using h.2
    | succ n => simpa [wpOps] using h.1 hv
  | cons i r ih =>
    intro fuel listed a w hl hv h
    cases fuel with
    | zero => simp at hl
    | succ n =>
      rw [wpOps_cons]
      exact wpOp_mono (fun a w hh => ih n _ a w (by simpa using hl) hv.2 hh) (h.2 i hv.1)

/-- How many are not yet listed. -/
def unl (n : Nat) (listed : Array Bool) : Nat := ((List.range n).filter fun i => !listed.getD i true).length
theorem unl_set {n : Nat} {listed : Array Bool} {i : Nat} (hi : i < n) (hu : listed.getD i true = false) : unl n (listed.setIfInBounds i true) + 1 = unl n listed := by
  unfold unl
  have his : i < listed.size := by
    rcases Nat.lt_or_ge i listed.size with h | h
    · exact h
    · simp [Array.getElem?_eq_none h] at hu
  have hp : ((List.range n).filter fun j => !listed.getD j true).Perm (i :: (List.range n).filter fun j => !(listed.setIfInBounds i true).getD j true) := by
    refine (List.perm_ext_iff_of_nodup (List.nodup_range.filter _) (List.nodup_cons.2 ⟨?_, List.nodup_range.filter _⟩)).2 fun j => ?_
    · rw [List.mem_filter]; simp [his]
    · rw [List.mem_filter, List.mem_cons, List.mem_filter]
      by_cases hj : i = j
      · subst hj; simp [hi, hu]
      · rw [getD_set_ne true hj]; simp [Ne.symm hj]
  have := hp.length_eq
  simpa using this.symm

theorem go_valid {ops : Array Oper} : ∀ (fuel t : Nat) (listed : Array Bool), unl ops.size listed ≤ fuel → validL ops listed (Region.linearise.go .any ops fuel t listed []) := by
  intro fuel
  induction fuel with
  | zero =>
    intro t listed h
    simp only [Region.linearise.go, List.reverse_nil, validL]
    rw [List.eq_nil_iff_forall_not_mem]
    intro i hi
    obtain ⟨hun, oi, hoi, _⟩ := mem_ready.1 hi
    have hlt : i < ops.size := (Array.getElem?_eq_some_iff.1 hoi).1
    have : i ∈ (List.range ops.size).filter fun i => !listed.getD i true := List.mem_filter.2 ⟨List.mem_range.2 hlt, by simp [hun]⟩
    have h0 : unl ops.size listed = 0 := by omega
    rw [List.length_eq_zero_iff.1 h0] at this
    cases this
  | succ fuel ih =>
    intro t listed h
    simp only [Region.linearise.go]
    change validL ops listed (match (Region.ready .any ops listed)[t % (Region.ready .any ops listed).length]? with
      | some i => Region.linearise.go .any ops fuel (t / (Region.ready .any ops listed).length) (listed.setIfInBounds i true) [i]
      | none => [].reverse)
    cases hi : (Region.ready .any ops listed)[t % (Region.ready .any ops listed).length]? with
    | none =>
      cases hr : Region.ready .any ops listed with
      | nil => simp [validL, hr]
      | cons x xs =>
        rw [hr] at hi
        have hlt : t % (x :: xs).length < (x :: xs).length := Nat.mod_lt _ (by simp)
        simp at hi
        simp at hlt
        omega
    | some i =>
      simp only []
      rw [linearise_go_acc, List.reverse_singleton, List.singleton_append]
      have hin := List.mem_of_getElem? hi
      obtain ⟨hun, oi, hoi, _⟩ := mem_ready.1 hin
      have hlt : i < ops.size := (Array.getElem?_eq_some_iff.1 hoi).1
      have := unl_set hlt hun
      exact ⟨hin, ih _ _ (by omega)⟩

def loudAt (ops : Array Oper) (i : Nat) : Bool := match ops[i]? with | some o => loud o.op | none => false
/-- An operation, its numbers turned. -/
def renum (pos : Nat → Nat) (extra : List Edge) (o : Oper) : Oper :=
  { o with after := ((o.after.toList.map fun e => (⟨pos e.on, e.ground⟩ : Edge)) ++ extra).toArray, guard := o.guard.map fun gb => (pos gb.1, gb.2) }
def extraL (ops : Array Oper) (lam ord : List Nat) (i : Nat) : List Edge :=
  bif loudAt ops i then (lam.takeWhile fun k => k != i).map fun k => ⟨ord.idxOf k, .data⟩ else []
/-- The region's operations in the order 'ord', the loud ones chained in the order 'lam'. -/
def reg (ops : Array Oper) (lam ord : List Nat) : Array Oper := (ord.map fun i => renum (fun j => ord.idxOf j) (extraL ops lam ord i) ((ops[i]?).getD default)).toArray
def permB (n : Nat) (ord : List Nat) : Bool := decide ord.Nodup && (ord.length == n) && (List.range n).all (fun i => ord.contains i) && ord.all (fun i => decide (i < n))

section
variable {ops : Array Oper} {lam ord : List Nat}
theorem perm_pos (h : permB ops.size ord = true) {i : Nat} (hi : i < ops.size) : ord.idxOf i < ops.size ∧ ord[ord.idxOf i]? = some i := by
  unfold permB at h
  simp only [Bool.and_eq_true, decide_eq_true_eq, beq_iff_eq, List.all_eq_true, List.mem_range, List.contains_iff_mem] at h
  have hm := h.1.2 i hi
  have hl := List.idxOf_lt_length_of_mem hm
  exact ⟨by have := h.1.1.2; omega, by rw [List.getElem?_eq_getElem hl, List.getElem_idxOf]⟩
theorem perm_inj (h : permB ops.size ord = true) {i j : Nat} (hi : i < ops.size) (hj : j < ops.size) (e : ord.idxOf i = ord.idxOf j) : i = j := by
  have h1 := (perm_pos h hi).2
  have h2 := (perm_pos h hj).2
  rw [e, h2] at h1
  injection h1 with h1
  exact h1.symm
theorem perm_back (h : permB ops.size ord = true) {p : Nat} (hp : p < ops.size) : ∃ i, i < ops.size ∧ ord.idxOf i = p := by
  have h' := h
  unfold permB at h'
  simp only [Bool.and_eq_true, decide_eq_true_eq, beq_iff_eq, List.all_eq_true, List.mem_range, List.contains_iff_mem] at h'
  obtain ⟨⟨⟨hn, hl⟩, _⟩, hlt⟩ := h'
  have hp' : p < ord.length := by omega
  refine ⟨ord[p], hlt _ (List.getElem_mem hp'), ?_⟩
  exact List.Nodup.idxOf_getElem hn p hp'
theorem reg_size (h : permB ops.size ord = true) : (reg ops lam ord).size = ops.size := by
  unfold permB at h
  simp only [Bool.and_eq_true, beq_iff_eq] at h
  simp [reg, h.1.1.2]
theorem reg_at (h : permB ops.size ord = true) {i : Nat} {o : Oper} (ho : ops[i]? = some o) : (reg ops lam ord)[ord.idxOf i]? = some (renum (fun j => ord.idxOf j) (extraL ops lam ord i) o) := by
  have hlt : i < ops.size := (Array.getElem?_eq_some_iff.1 ho).1
  unfold reg
  rw [List.getElem?_toArray, List.getElem?_map, (perm_pos h hlt).2]
  simp [ho]
theorem reg_dst (h : permB ops.size ord = true) (g : Nat) : ((reg ops lam ord)[ord.idxOf g]?).bind (·.dst) = (ops[g]?).bind (·.dst) := by
  cases hg : ops[g]? with
  | some o => rw [reg_at h hg]; rfl
  | none =>
    have hge : ops.size ≤ g := Array.getElem?_eq_none_iff.1 hg
    have hnot : ¬ g ∈ ord := by
      intro hm
      have hp : ord.idxOf g < ops.size := by
        have := List.idxOf_lt_length_of_mem hm
        unfold permB at h
        simp only [Bool.and_eq_true, beq_iff_eq] at h
        omega
      obtain ⟨i, hi, e⟩ := perm_back h hp
      have h1 := (perm_pos h hi).2
      rw [e, List.getElem?_eq_getElem (List.idxOf_lt_length_of_mem hm), List.getElem_idxOf] at h1
      injection h1 with h1
      omega
    have : (reg ops lam ord)[ord.idxOf g]? = none := by
      rw [Array.getElem?_eq_none_iff, reg_size h]
      rw [List.idxOf_eq_length hnot]
      unfold permB at h
      simp only [Bool.and_eq_true, beq_iff_eq] at h
      omega
    rw [this]
theorem renum_wanted (h : permB ops.size ord = true) (ex : List Edge) (o : Oper) (tmps : Array Value) : Region.wanted (renum (fun j => ord.idxOf j) ex o) (yielded (reg ops lam ord) tmps) = Region.wanted o (yielded ops tmps) := by
  unfold Region.wanted renum
  cases hg : o.guard with
  | none => simp
  | some gb =>
    obtain ⟨g, b⟩ := gb
    simp only [Option.map_some]
    have : yielded (reg ops lam ord) tmps (ord.idxOf g) = yielded ops tmps g := by
      unfold yielded
      rw [reg_dst h]
    rw [this]
theorem wp_reg {P : Program} {Q : Exit → Act → World → Prop} (h : permB ops.size ord = true) : ∀ (σ : List Nat), (∀ i ∈ σ, i < ops.size) → ∀ a w, wpOps P (reg ops lam ord) Q (σ.map fun i => ord.idxOf i) a w → wpOps P ops Q σ a w := by
  intro σ
  induction σ with
  | nil => intro _ a w hh; exact hh
  | cons i r ih =>
    intro hr a w hh
    rw [List.map_cons, wpOps_cons] at hh
    rw [wpOps_cons]
    have hh := wpOp_mono (fun a w hx => ih (fun j hj => hr j (.tail _ hj)) a w hx) hh
    have hi := hr i (.head _)
    have ho : ops[i]? = some ops[i] := Array.getElem?_eq_getElem hi
    unfold wpOp at hh ⊢
    rw [reg_at h ho] at hh
    rw [ho]
    simp only [renum_wanted h] at hh ⊢
    exact hh

theorem binds_on (m : Region.Mode) (a b : Nat) (g : Ground) : Region.binds m ⟨a, g⟩ = Region.binds m ⟨b, g⟩ := rfl
theorem getD_lt {l : Array Bool} {i : Nat} (h : l.getD i false = true) : i < l.size := by
  rcases Nat.lt_or_ge i l.size with h' | h'
  · exact h'
  · simp [Array.getElem?_eq_none h'] at h
theorem getD_any {l : Array Bool} {i : Nat} (h : i < l.size) (d d' : Bool) : l.getD i d = l.getD i d' := by simp [Array.getD, h]
theorem idxOf_out (h : permB ops.size ord = true) {g : Nat} (hg : ops.size ≤ g) : ord.idxOf g = ops.size := by
  unfold permB at h
  simp only [Bool.and_eq_true, decide_eq_true_eq, beq_iff_eq, List.all_eq_true] at h
  rw [List.idxOf_eq_length fun hm => by have := h.2 g hm; omega]
  exact h.1.1.2

theorem takeWhile_before {i : Nat} : ∀ (done rest : List Nat), ¬ i ∈ done → (done ++ i :: rest).takeWhile (fun k => k != i) = done := by
  intro done
  induction done with
  | nil => intro rest _; simp
  | cons a l ih =>
    intro rest h
    simp only [List.mem_cons, not_or] at h
    rw [List.cons_append, List.takeWhile_cons_of_pos (by simpa using Ne.symm h.1), ih rest h.2]

theorem valid_reg (h : permB ops.size ord = true) (hn : lam.Nodup) : ∀ (σ : List Nat) (listed listed' : Array Bool) (done : List Nat), listed.size = ops.size → listed'.size = ops.size →
    (∀ i, i < ops.size → ∀ d, listed'.getD (ord.idxOf i) d = listed.getD i d) → lam = done ++ σ.filter (loudAt ops) → (∀ k ∈ done, listed.getD k false = true) →
    validL ops listed σ → validL (reg ops lam ord) listed' (σ.map fun i => ord.idxOf i) := by
  intro σ
  induction σ with
  | nil =>
    intro listed listed' done hs hs' hl _ _ hv
    show Region.ready .any (reg ops lam ord) listed' = []
    have hv : Region.ready .any ops listed = [] := hv
    rw [List.eq_nil_iff_forall_not_mem]
    intro p hp
    obtain ⟨hun, o', ho', hpre⟩ := mem_ready.1 hp
    have hlt : p < ops.size := by have := (Array.getElem?_eq_some_iff.1 ho').1; rwa [reg_size h] at this
    obtain ⟨i, hi, rfl⟩ := perm_back h hlt
    have ho : ops[i]? = some ops[i] := Array.getElem?_eq_getElem hi
    rw [reg_at h ho] at ho'
    injection ho' with ho'
    subst ho'
    have : i ∈ Region.ready .any ops listed := mem_ready.2 ⟨by rw [← hl i hi]; exact hun, _, ho, fun e he hb => by
      have h1 := hpre ⟨ord.idxOf e.on, e.ground⟩ (by simp only [renum, List.mem_toArray, List.mem_append, List.mem_map]; exact .inl ⟨e, by simpa using he, rfl⟩) hb
      have h1 : listed'.getD (ord.idxOf e.on) false = true := h1
      rcases Nat.lt_or_ge e.on ops.size with h2 | h2
      · rw [← hl _ h2]; exact h1
      · rw [idxOf_out h h2] at h1
        have := getD_lt h1
        omega⟩
    rw [hv] at this
    cases this
  | cons i r ih =>
    intro listed listed' done hs hs' hl hlam hdone hv
    obtain ⟨hin, hv⟩ := hv
    obtain ⟨hun, o, ho, hpre⟩ := mem_ready.1 hin
    have hi : i < ops.size := (Array.getElem?_eq_some_iff.1 ho).1
    have hpi := (perm_pos h hi).1
    refine ⟨mem_ready.2 ⟨by rw [hl i hi]; exact hun, _, reg_at h ho, ?_⟩, ?_⟩
    · intro e' he' hb
      simp only [renum, List.mem_toArray, List.mem_append, List.mem_map] at he'
      rcases he' with ⟨e, he, rfl⟩ | he'
      · have h1 := hpre e (by simpa using he) hb
        have h2 := getD_lt h1
        show listed'.getD (ord.idxOf e.on) false = true
        rw [hl _ (by omega)]; exact h1
      · unfold extraL at he'
        cases hlo : loudAt ops i with
        | false => rw [hlo] at he'; cases he'
        | true =>
          rw [hlo] at he'
          have hlam2 := hlam
          rw [List.filter_cons_of_pos hlo] at hlam2
          have hid : ¬ i ∈ done := by
            rw [hlam2] at hn
            intro hm
            exact (List.nodup_append.1 hn).2.2 i hm i (.head _) rfl
          rw [cond_true, hlam2, takeWhile_before _ _ hid, List.mem_map] at he'
          obtain ⟨k, hk, rfl⟩ := he'
          have h1 := hdone k hk
          have h2 := getD_lt h1
          show listed'.getD (ord.idxOf k) false = true
          rw [hl _ (by omega)]; exact h1
    · have hset : ∀ j, j < ops.size → ∀ d, (listed'.setIfInBounds (ord.idxOf i) true).getD (ord.idxOf j) d = (listed.setIfInBounds i true).getD j d := by
        intro j hj d
        by_cases hji : i = j
        · subst hji
          have h1 : ord.idxOf i < listed'.size := by omega
          have h2 : i < listed.size := by omega
          simp [Array.getD, h1, h2]
        · rw [getD_set_ne d hji, getD_set_ne d (fun e => hji (perm_inj h hi hj e))]
          exact hl j hj d
      cases hlo : loudAt ops i with
      | false =>
        rw [List.filter_cons_of_neg (by simp [hlo])] at hlam
        exact ih _ _ done (by simpa using hs) (by simpa using hs') hset hlam (fun k hk => getD_set_true (hdone k hk)) hv
      | true =>
        rw [List.filter_cons_of_pos hlo] at hlam
        refine ih _ _ (done ++ [i]) (by simpa using hs) (by simpa using hs') hset (by rw [List.append_assoc]; exact hlam) ?_ hv
        intro k hk
        rcases List.mem_append.1 hk with hk | hk
        · exact getD_set_true (hdone k hk)
        · have : k = i := by simpa using hk
          subst this
          have h2 : k < listed.size := by omega
          simp [Array.getD, h2]

/-- All orders of the loud ones that the waits let by. -/
def exts (c : Array Nat) : Nat → List Nat → List (List Nat)
  | 0, _ => [[]]
  | n + 1, R => R.flatMap fun i => bif R.all (fun k => k == i || !waitsC c i k) then (exts c n (R.erase i)).map (i :: ·) else []
theorem exts_spec (c : Array Nat) : ∀ (τ R : List Nat), τ.Perm R → τ.Nodup → τ.Pairwise (fun i k => waitsC c i k = false) → τ ∈ exts c τ.length R := by
  intro τ
  induction τ with
  | nil => intro R _ _ _; simp [exts]
  | cons i r ih =>
    intro R hp hn hw
    have hw := List.pairwise_cons.1 hw
    have hn := List.nodup_cons.1 hn
    have hi : i ∈ R := hp.mem_iff.1 (.head _)
    rw [List.length_cons, exts, List.mem_flatMap]
    refine ⟨i, hi, ?_⟩
    have hall : R.all (fun k => k == i || !waitsC c i k) = true := by
      rw [List.all_eq_true]
      intro k hk
      rcases List.mem_cons.1 (hp.mem_iff.2 hk) with h | h
      · simp [h]
      · simp [hw.1 k h]
    rw [hall, cond_true, List.mem_map]
    exact ⟨r, ih _ (List.cons_perm_iff_perm_erase.1 hp).2 hn.2 hw.2, rfl⟩

section
variable {ops : Array Oper} {lam ord : List Nat}
theorem valid_mem : ∀ (σ : List Nat) (listed : Array Bool), validL ops listed σ → (∀ i ∈ σ, i < ops.size ∧ listed.getD i true = false) ∧ σ.Nodup := by
  intro σ
  induction σ with
  | nil => intro _ _; simp
  | cons i r ih =>
    intro listed ⟨hin, hv⟩
    obtain ⟨hun, o, ho, _⟩ := mem_ready.1 hin
    have hi : i < ops.size := (Array.getElem?_eq_some_iff.1 ho).1
    have his : i < listed.size := by
      rcases Nat.lt_or_ge i listed.size with h | h
      · exact h
      · simp [Array.getElem?_eq_none h] at hun
    obtain ⟨h1, h2⟩ := ih _ hv
    have hne : ∀ j ∈ r, i ≠ j := by
      intro j hj e
      have := (h1 j hj).2
      subst e
      simp [Array.getD, his] at this
    refine ⟨?_, List.nodup_cons.2 ⟨fun h => hne i h rfl, h2⟩⟩
    intro j hj
    rcases List.mem_cons.1 hj with rfl | hj
    · exact ⟨hi, hun⟩
    · have := h1 j hj
      rw [getD_set_ne true (hne j hj)] at this
      exact this
theorem valid_pair : ∀ (σ : List Nat) (listed : Array Bool), (Closed ops fun j => listed.getD j false = true) → validL ops listed σ → σ.Pairwise (fun i k => waitsC (closL ops.toList #[]) i k = false) := by
  intro σ
  induction σ with
  | nil => intro _ _ _; exact .nil
  | cons i r ih =>
    intro listed hc hv
    have hm := valid_mem _ _ hv
    obtain ⟨hin, hv⟩ := hv
    obtain ⟨hun, o, ho, hpre⟩ := mem_ready.1 hin
    have his : i < listed.size := by
      rcases Nat.lt_or_ge i listed.size with h | h
      · exact h
      · simp [Array.getElem?_eq_none h] at hun
    have hD : Closed ops fun j => j = i ∨ listed.getD j false = true := fun j hj o' ho' e he hb => by
      rcases hj with rfl | hj
      · rw [ho] at ho'; injection ho' with ho'; subst ho'
        exact .inr (hpre e he hb)
      · exact .inr (hc j hj o' ho' e he hb)
    refine List.pairwise_cons.2 ⟨fun k hk => ?_, ih _ ?_ hv⟩
    · rw [Bool.eq_false_iff]
      intro hw
      rcases waitsC_step hD i k (.inl rfl) hw with h | h
      · subst h; exact (List.nodup_cons.1 hm.2).1 hk
      · have h1 := (hm.1 k (.tail _ hk)).2
        rw [getD_any (getD_lt h) true false] at h1
        rw [h] at h1; cases h1
    · have gset : ∀ k, (listed.setIfInBounds i true).getD k false = true ↔ k = i ∨ listed.getD k false = true := by
        intro k
        by_cases hki : k = i
        · subst hki; simp [Array.getD, his]
        · rw [getD_set_ne false (Ne.symm hki)]; simp [hki]
      intro j hj o' ho' e he hb
      rw [gset] at hj ⊢
      exact hD j hj o' ho' e he hb
theorem valid_all (h : permB ops.size ord = true) (hd : directB (reg ops lam ord) = true) : ∀ (σ : List Nat) (listed : Array Bool), listed.size = ops.size → validL ops listed σ → ∀ i, i < ops.size → listed.getD i true = true ∨ i ∈ σ := by
  intro σ
  induction σ with
  | nil =>
    intro listed hs hv
    have hv : Region.ready .any ops listed = [] := hv
    have key : ∀ n i, i < ops.size → ord.idxOf i = n → listed.getD i true = true := by
      intro n
      induction n using Nat.strongRecOn with
      | _ n ih =>
        intro i hi hn
        cases hun : listed.getD i true with
        | true => rfl
        | false =>
          have ho : ops[i]? = some ops[i] := Array.getElem?_eq_getElem hi
          have : i ∈ Region.ready .any ops listed := mem_ready.2 ⟨hun, _, ho, fun e he hb => by
            have h1 := directB_spec hd (reg_at h ho) (e := ⟨ord.idxOf e.on, e.ground⟩) (by simp only [renum, List.mem_toArray, List.mem_append, List.mem_map]; exact .inl ⟨e, by simpa using he, rfl⟩) hb
            have h1 : ord.idxOf e.on < ord.idxOf i := h1
            have h2 : e.on < ops.size := by
              rcases Nat.lt_or_ge e.on ops.size with h2 | h2
              · exact h2
              · rw [idxOf_out h h2] at h1
                have := (perm_pos h hi).1
                omega
            rw [getD_any (by omega) false true]
            exact ih _ (by omega) e.on h2 rfl⟩
          rw [hv] at this
          cases this
    intro i hi
    exact .inl (key _ i hi rfl)
  | cons i r ih =>
    intro listed hs ⟨hin, hv⟩ j hj
    rcases ih _ (by simpa using hs) hv j hj with h1 | h1
    · by_cases hji : i = j
      · exact .inr (hji ▸ .head _)
      · rw [getD_set_ne true hji] at h1
        exact .inl h1
    · exact .inr (.tail _ h1)

theorem reg_dsts (h : permB ops.size ord = true) : ∀ x ∈ dsts (reg ops lam ord).toList, x ∈ dsts ops.toList := by
  intro x hx
  unfold dsts at hx ⊢
  rw [List.mem_filterMap] at hx ⊢
  obtain ⟨o', ho', hd⟩ := hx
  obtain ⟨p, hp⟩ := List.getElem?_of_mem ho'
  have hp' : (reg ops lam ord)[p]? = some o' := by simpa using hp
  have hlt : p < ops.size := by have := (Array.getElem?_eq_some_iff.1 hp').1; rwa [reg_size h] at this
  obtain ⟨i, hi, rfl⟩ := perm_back h hlt
  have ho : ops[i]? = some ops[i] := Array.getElem?_eq_getElem hi
  rw [reg_at h ho] at hp'
  injection hp' with hp'
  exact ⟨ops[i], by simp, by rw [← hd, ← hp']; rfl⟩

/-- The orders given are all that there are, and each is one that the mixed walk takes. -/
def ordersB (ops : Array Oper) (Λ : List (List Nat × List Nat)) : Bool :=
  !Λ.isEmpty && (exts (closL ops.toList #[]) ((List.range ops.size).filter (loudAt ops)).length ((List.range ops.size).filter (loudAt ops))).all (fun τ => Λ.any fun x => x.1 == τ) &&
    Λ.all fun x => permB ops.size x.2 && (Region.noSelect (reg ops x.1 x.2) && mixB (reg ops x.1 x.2))

theorem draw_orders {P : Program} {N : Nat} {k : Fr → World → Prop} {f : Fr} {w : World} (C : World → Prop) (Λ : List (List Nat × List Nat)) (hf : P.follows .mixedOrders = true)
    (hB : ordersB ops Λ = true) (hC : C w.drew) (h : ∀ x ∈ Λ, mixK P N C (reg ops x.1 x.2) k 0 (reg ops x.1 x.2).toList f w.drew) : drawK P N ops k f w := by
  unfold drawK
  intro a hR id Q hQ
  refine wp_region_draw fun t => ?_
  simp only [Region.schedule, hf, Bool.true_or, if_true]
  unfold ordersB at hB
  simp only [Bool.and_eq_true] at hB
  obtain ⟨⟨hne, hcov⟩, hall⟩ := hB
  rw [List.all_eq_true] at hcov hall
  have hv : validL ops (Array.replicate ops.size false) (Region.linearise .any ops t) := go_valid _ _ _ (by unfold unl; exact Nat.le_trans (List.length_filter_le _ _) (by simp))
  generalize hσ : Region.linearise .any ops t = σ at hv ⊢
  have hcl : Closed ops fun j => (Array.replicate ops.size false).getD j false = true := fun j hj => by
    have := getD_lt hj
    simp [Array.getD] at hj
  have hm := valid_mem _ _ hv
  have hpw := valid_pair _ _ hcl hv
  obtain ⟨x0, hx0⟩ : ∃ x, x ∈ Λ := by
    cases Λ with
    | nil => simp at hne
    | cons x l => exact ⟨x, .head _⟩
  have h0 := hall x0 hx0
  simp only [Bool.and_eq_true] at h0
  have hdir0 : directB (reg ops x0.1 x0.2) = true := by have := h0.2.2; unfold mixB at this; simp only [Bool.and_eq_true] at this; exact this.1
  have hfull := valid_all h0.1 hdir0 _ _ (by simp) hv
  have hperm : (σ.filter (loudAt ops)).Perm ((List.range ops.size).filter (loudAt ops)) := by
    refine (List.perm_ext_iff_of_nodup (hm.2.filter _) (List.nodup_range.filter _)).2 fun i => ?_
    rw [List.mem_filter, List.mem_filter, List.mem_range]
    constructor
    · rintro ⟨h1, h2⟩; exact ⟨(hm.1 i h1).1, h2⟩
    · rintro ⟨h1, h2⟩
      refine ⟨(hfull i h1).resolve_left ?_, h2⟩
      simp [Array.getD, h1]
  have hex := exts_spec (closL ops.toList #[]) _ _ hperm (hm.2.filter _) (hpw.filter _)
  rw [hperm.length_eq] at hex
  have hany := hcov _ hex
  rw [List.any_eq_true] at hany
  obtain ⟨x, hx, hxe⟩ := hany
  have hxe := eq_of_beq hxe
  have hxx := hall x hx
  simp only [Bool.and_eq_true] at hxx
  obtain ⟨hp, hns, hmix⟩ := hxx
  refine wp_reg (lam := x.1) (ord := x.2) hp σ (fun i hi => (hm.1 i hi).1) _ _ ?_
  have hval := valid_reg (lam := x.1) (ord := x.2) hp (by rw [hxe]; exact hm.2.filter _) σ (Array.replicate ops.size false) (Array.replicate ops.size false) [] (by simp) (by simp)
    (fun i hi d => by simp [Array.getD, hi, (perm_pos hp hi).1]) (by rw [hxe]; rfl) (fun k hk => by cases hk) hv
  have hsz := reg_size (lam := x.1) hp
  have hk := h x hx
  have hw : wpMix P (reg ops x.1 x.2) C (fun a w => ∃ f', R N a f' ∧ (Agree (dsts ops.toList) f' f ∧ k f' w)) (List.range (reg ops x.1 x.2).size) a w.drew := by
    have := mixK_sound (reg ops x.1 x.2).toList 0 f w.drew a (fun j _ => by simp) hR (mixK_agree (dsts ops.toList) 0 (reg ops x.1 x.2).toList f w.drew (reg_dsts hp) hk)
    simpa [List.range_eq_range'] using this
  have hA := any_of_mix (P := P) (C := C) (Q' := Q) (fun a w ⟨f, hR, hk⟩ => hQ _ _ _ hR hk.1 hk.2) hns hmix (List.range (reg ops x.1 x.2).size) (Array.replicate (reg ops x.1 x.2).size false) a _ List.pairwise_lt_range (fun j => by
    simp only [List.mem_range]
    constructor
    · intro hj; exact ⟨hj, by simp [Array.getD, hj]⟩
    · intro hj; exact hj.1) (by simp) (fun j o ho hj => by
      have hjs : j < (reg ops x.1 x.2).size := (Array.getElem?_eq_some_iff.1 ho).1
      simp [Array.getD, hjs] at hj) (.inl hC) hw
  rw [hsz] at hA
  have hlen : (σ.map fun i => x.2.idxOf i).length ≤ (List.range ops.size).length := by
    rw [List.length_map, List.length_range]
    have : σ.Subset (List.range ops.size) := fun i hi => List.mem_range.2 (hm.1 i hi).1
    have := (List.perm_ext_iff_of_nodup hm.2 List.nodup_range).2 fun i => ⟨fun hi => List.mem_range.2 (hm.1 i hi).1, fun hi => (hfull i (List.mem_range.1 hi)).resolve_left (by simp [Array.getD, List.mem_range.1 hi])⟩
    rw [this.length_eq]; simp
  exact any_list _ _ _ _ _ hlen hval hA
end
end
end Go.Dk
end

section
/- What a call holds of memory: its own blocks, and what it only reads. -/
namespace Go.Dk

/-- A part of memory: where it lies, and what holds of it. -/
structure Res where
  foot : Nat → Prop
  ok : World → Prop
  stable : ∀ w w', (∀ g, foot g → w'.heap[g]? = w.heap[g]?) → ok w → ok w'

/-- Outside F all that was there is as it was. -/
structure Keeps (F : Nat → Prop) (w w' : World) : Prop where
  os : w'.os = w.os
  tape : w'.tape = w.tape
  output : w'.output = w.output
  size : w.heap.size ≤ w'.heap.size
  old : ∀ g, g < w.heap.size → ¬ F g → w'.heap[g]? = w.heap[g]?

abbrev Same (w w' : World) : Prop := Keeps (fun _ => False) w w'

theorem Keeps.refl (F : Nat → Prop) (w : World) : Keeps F w w := ⟨rfl, rfl, rfl, Nat.le_refl _, fun _ _ _ => rfl⟩
theorem Keeps.trans {F G : Nat → Prop} {a b c : World} (h : Keeps F a b) (k : Keeps G b c) (hFG : ∀ g, g < a.heap.size → G g → F g) : Keeps F a c :=
  ⟨k.os.trans h.os, k.tape.trans h.tape, k.output.trans h.output, Nat.le_trans h.size k.size, fun g hg hf =>
    (k.old g (Nat.lt_of_lt_of_le hg h.size) (fun hG => hf (hFG g hg hG))).trans (h.old g hg hf)⟩
theorem Keeps.mono {F G : Nat → Prop} {a b : World} (h : Keeps F a b) (hFG : ∀ g, F g → G g) : Keeps G a b :=
  ⟨h.os, h.tape, h.output, h.size, fun g hg hf => h.old g hg fun hh => hf (hFG g hh)⟩
theorem Keeps.alloc (w : World) (o : Obj) : Same w (w.alloc o) :=
  ⟨rfl, rfl, rfl, by simp, fun g hg _ => heap_alloc_old w o g hg⟩
theorem Keeps.drew (w : World) : Same w w.drew := ⟨rfl, rfl, rfl, Nat.le_refl _, fun _ _ _ => rfl⟩
theorem Keeps.setCell (w : World) (a : Addr) (v : Value) : Keeps (fun g => g = a.block) w (w.setCell a v) :=
  ⟨rfl, rfl, rfl, by simp, fun g _ hne => heap_setCell_other w a g v hne⟩

structure Hp (w0 : World) (F : Nat → Prop) (w : World) (L M : List Res) : Prop where
  keeps : Keeps F w0 w
  ok : ∀ r ∈ L, r.ok w
  lt : ∀ r ∈ L, ∀ g, r.foot g → g < w.heap.size
  new : ∀ r ∈ L, ∀ g, r.foot g → w0.heap.size ≤ g ∨ F g
  dis : L.Pairwise fun r s => ∀ g, r.foot g → ¬ s.foot g
  rok : ∀ r ∈ M, r.ok w
  rlt : ∀ r ∈ M, ∀ g, r.foot g → g < w.heap.size
  rdis : ∀ r ∈ M, ∀ s ∈ L, ∀ g, r.foot g → ¬ s.foot g

section
variable {w0 w w' : World} {F : Nat → Prop} {L M : List Res}

theorem Hp.start (w : World) (F : Nat → Prop) (M : List Res) (hM : ∀ r ∈ M, r.ok w) (hlt : ∀ r ∈ M, ∀ g, r.foot g → g < w.heap.size) : Hp w F w [] M :=
  ⟨Keeps.refl _ _, by simp, by simp, by simp, .nil, hM, hlt, by simp⟩
theorem Hp.start0 (w : World) : Hp w (fun _ => False) w [] [] := Hp.start w _ [] (by simp) (by simp)

theorem Hp.same (H : Hp w0 F w L M) (hk : Same w w') : Hp w0 F w' L M := by
  have hold : ∀ g, g < w.heap.size → w'.heap[g]? = w.heap[g]? := fun g hg => hk.old g hg id
  exact ⟨H.keeps.trans hk (by simp), fun r hr => r.stable _ _ (fun g hg => hold g (H.lt r hr g hg)) (H.ok r hr),
    fun r hr g hg => Nat.lt_of_lt_of_le (H.lt r hr g hg) hk.size, H.new, H.dis,
    fun r hr => r.stable _ _ (fun g hg => hold g (H.rlt r hr g hg)) (H.rok r hr),
    fun r hr g hg => Nat.lt_of_lt_of_le (H.rlt r hr g hg) hk.size, H.rdis⟩

/-- A new part of one's own. -/
theorem Hp.add (H : Hp w0 F w L M) (hk : Same w w') (r : Res) (hok : r.ok w') (hn : ∀ g, r.foot g → w.heap.size ≤ g ∧ g < w'.heap.size) : Hp w0 F w' (r :: L) M := by
  have H' := H.same hk
  refine ⟨H'.keeps, ?_, ?_, ?_, ?_, H'.rok, H'.rlt, ?_⟩
  · intro s hs; rcases List.mem_cons.1 hs with rfl | hs
    · exact hok
    · exact H'.ok s hs
  · intro s hs; rcases List.mem_cons.1 hs with rfl | hs
    · exact fun g hg => (hn g hg).2
    · exact H'.lt s hs
  · intro s hs; rcases List.mem_cons.1 hs with rfl | hs
    · exact fun g hg => .inl (Nat.le_trans H.keeps.size (hn g hg).1)
    · exact H'.new s hs
  · exact .cons (fun s hs g hg hg' => absurd (H.lt s hs g hg') (Nat.not_lt.2 (hn g hg).1)) H'.dis
  · intro r' hr' s hs g hg hg'
    rcases List.mem_cons.1 hs with rfl | hs
    · exact absurd (H.rlt r' hr' g hg) (Nat.not_lt.2 (hn g hg').1)
    · exact H'.rdis r' hr' s hs g hg hg'

/-- A new part that is only read. -/
theorem Hp.addRO (H : Hp w0 F w L M) (hk : Same w w') (r : Res) (hok : r.ok w') (hn : ∀ g, r.foot g → g < w'.heap.size ∧ (w.heap.size ≤ g ∨ ∃ s ∈ M, s.foot g)) : Hp w0 F w' L (r :: M) := by
  have H' := H.same hk
  refine ⟨H'.keeps, H'.ok, H'.lt, H'.new, H'.dis, ?_, ?_, ?_⟩
  · intro s hs; rcases List.mem_cons.1 hs with rfl | hs
    · exact hok
    · exact H'.rok s hs
  · intro s hs; rcases List.mem_cons.1 hs with rfl | hs
    · exact fun g hg => (hn g hg).1
    · exact H'.rlt s hs
  · intro r' hr' s hs g hg hg'
    rcases List.mem_cons.1 hr' with rfl | hr'
    · rcases (hn g hg).2 with hge | ⟨q, hq, hqg⟩
      · exact absurd (H.lt s hs g hg') (Nat.not_lt.2 hge)
      · exact H.rdis q hq s hs g hqg hg'
    · exact H'.rdis r' hr' s hs g hg hg'

theorem Hp.freeze {r : Res} (H : Hp w0 F w (r :: L) M) : Hp w0 F w L (r :: M) := by
  refine ⟨H.keeps, fun s hs => H.ok s (.tail _ hs), fun s hs => H.lt s (.tail _ hs), fun s hs => H.new s (.tail _ hs), (List.pairwise_cons.1 H.dis).2, ?_, ?_, ?_⟩
  · intro s hs; rcases List.mem_cons.1 hs with rfl | hs
    · exact H.ok _ (.head _)
    · exact H.rok s hs
  · intro s hs; rcases List.mem_cons.1 hs with rfl | hs
    · exact H.lt _ (.head _)
    · exact H.rlt s hs
  · intro s hs q hq g hg hg'
    rcases List.mem_cons.1 hs with rfl | hs
    · exact (List.pairwise_cons.1 H.dis).1 q hq g hg hg'
    · exact H.rdis s hs q (.tail _ hq) g hg hg'

theorem Hp.forget {r : Res} (H : Hp w0 F w (r :: L) M) : Hp w0 F w L M :=
  ⟨H.keeps, fun s hs => H.ok s (.tail _ hs), fun s hs => H.lt s (.tail _ hs), fun s hs => H.new s (.tail _ hs), (List.pairwise_cons.1 H.dis).2, H.rok, H.rlt,
    fun s hs q hq => H.rdis s hs q (.tail _ hq)⟩
theorem Hp.forgetRO {r : Res} (H : Hp w0 F w L (r :: M)) : Hp w0 F w L M :=
  ⟨H.keeps, H.ok, H.lt, H.new, H.dis, fun s hs => H.rok s (.tail _ hs), fun s hs => H.rlt s (.tail _ hs), fun s hs => H.rdis s (.tail _ hs)⟩
/-- The same parts in another order, or fewer. -/
theorem Hp.perm {L' : List Res} (H : Hp w0 F w L M) (hp : L.Perm L') : Hp w0 F w L' M :=
  ⟨H.keeps, fun s hs => H.ok s (hp.mem_iff.2 hs), fun s hs => H.lt s (hp.mem_iff.2 hs), fun s hs => H.new s (hp.mem_iff.2 hs),
    hp.pairwise H.dis (fun h g h1 h2 => h g h2 h1), H.rok, H.rlt, fun s hs q hq => H.rdis s hs q (hp.mem_iff.2 hq)⟩
theorem Hp.front {r : Res} (H : Hp w0 F w L M) (n : Nat) (hn : L[n]? = some r) : Hp w0 F w (r :: L.eraseIdx n) M := by
  refine H.perm ?_
  clear H
  induction L generalizing n with
  | nil => simp at hn
  | cons s L ih =>
    cases n with
    | zero => simp at hn; subst hn; exact .refl _
    | succ n => exact ((ih n (by simpa using hn)).cons s).trans (.swap _ _ _)
theorem Hp.weakenRO {M' : List Res} (H : Hp w0 F w L M) (hM : ∀ r ∈ M', r ∈ M) : Hp w0 F w L M' :=
  ⟨H.keeps, H.ok, H.lt, H.new, H.dis, fun s hs => H.rok s (hM s hs), fun s hs => H.rlt s (hM s hs), fun s hs => H.rdis s (hM s hs)⟩

/-- One's own part turned. -/
theorem Hp.turn {r : Res} (H : Hp w0 F w L M) (n : Nat) (hn : L[n]? = some r) (r' : Res) (hk : Keeps r.foot w w') (hok : r'.ok w')
    (hf : ∀ g, r'.foot g → g < w'.heap.size ∧ (r.foot g ∨ w.heap.size ≤ g)) : Hp w0 F w' (L.set n r') M := by
  obtain ⟨hlt, hget⟩ := List.getElem?_eq_some_iff.1 hn
  have hrL : r ∈ L := hget ▸ List.getElem_mem hlt
  have hpw := List.pairwise_iff_getElem.1 H.dis
  have hapart : ∀ (j : Nat) (hj : j < L.length), j ≠ n → ∀ g, L[j].foot g → ¬ r.foot g := by
    intro j hj hne g h1 h2
    rw [← hget] at h2
    rcases Nat.lt_or_gt_of_ne hne with h | h
    · exact hpw j n hj hlt h g h1 h2
    · exact hpw n j hlt hj h g h2 h1
  have hmem : ∀ s ∈ L.set n r', s = r' ∨ ∃ (j : Nat) (hj : j < L.length), j ≠ n ∧ s = L[j] := by
    intro s hs
    obtain ⟨j, hj, rfl⟩ := List.mem_iff_getElem.1 hs
    rw [List.length_set] at hj
    by_cases hjn : n = j
    · subst hjn; left; simp
    · right; exact ⟨j, hj, fun h => hjn h.symm, by rw [List.getElem_set_ne hjn]⟩
  refine ⟨H.keeps.trans hk ?_, ?_, ?_, ?_, ?_, ?_, ?_, ?_⟩
  · intro g hg hr
    rcases H.new r hrL g hr with h | h
    · exact absurd hg (Nat.not_lt.2 h)
    · exact h
  · intro s hs
    rcases hmem s hs with rfl | ⟨j, hj, hne, rfl⟩
    · exact hok
    · exact (L[j]).stable _ _ (fun g hg => hk.old g (H.lt _ (List.getElem_mem hj) g hg) (hapart j hj hne g hg)) (H.ok _ (List.getElem_mem hj))
  · intro s hs g hg
    rcases hmem s hs with rfl | ⟨j, hj, hne, rfl⟩
    · exact (hf g hg).1
    · exact Nat.lt_of_lt_of_le (H.lt _ (List.getElem_mem hj) g hg) hk.size
  · intro s hs g hg
    rcases hmem s hs with rfl | ⟨j, hj, hne, rfl⟩
    · rcases (hf g hg).2 with h | h
      · exact H.new r hrL g h
      · exact .inl (Nat.le_trans H.keeps.size h)
    · exact H.new _ (List.getElem_mem hj) g hg
  · refine List.pairwise_iff_getElem.2 fun i j hi hj hij g h1 h2 => ?_
    rw [List.length_set] at hi hj
    by_cases hin : n = i
    · subst hin
      rw [List.getElem_set_self] at h1
      rw [List.getElem_set_ne (by omega)] at h2
      rcases (hf g h1).2 with h | h
      · exact hapart j hj (by omega) g h2 h
      · exact absurd (H.lt _ (List.getElem_mem hj) g h2) (Nat.not_lt.2 h)
    · by_cases hjn : n = j
      · subst hjn
        rw [List.getElem_set_self] at h2
        rw [List.getElem_set_ne (by omega)] at h1
        rcases (hf g h2).2 with h | h
        · exact hapart i hi (by omega) g h1 h
        · exact absurd (H.lt _ (List.getElem_mem hi) g h1) (Nat.not_lt.2 h)
      · rw [List.getElem_set_ne hin] at h1
        rw [List.getElem_set_ne hjn] at h2
        exact hpw i j hi hj hij g h1 h2
  · intro s hs
    exact s.stable _ _ (fun g hg => hk.old g (H.rlt s hs g hg) (H.rdis s hs r hrL g hg)) (H.rok s hs)
  · intro s hs g hg; exact Nat.lt_of_lt_of_le (H.rlt s hs g hg) hk.size
  · intro s hs q hq g hg hg'
    rcases hmem q hq with rfl | ⟨j, hj, hne, rfl⟩
    · rcases (hf g hg').2 with h | h
      · exact H.rdis s hs r hrL g hg h
      · exact absurd (H.rlt s hs g hg) (Nat.not_lt.2 h)
    · exact H.rdis s hs _ (List.getElem_mem hj) g hg hg'

theorem Hp.get {r : Res} (H : Hp w0 F w L M) (n : Nat) (hn : L[n]? = some r) : r.ok w := H.ok r (List.mem_of_getElem? hn)
theorem Hp.ro {r : Res} (H : Hp w0 F w L M) (n : Nat) (hn : M[n]? = some r) : r.ok w := H.rok r (List.mem_of_getElem? hn)
end

/-- A block that is known whole. -/
def blk (g : Nat) (t : TypeId) (cs : Array Value) : Res :=
  ⟨fun x => x = g, fun w => w.heap[g]? = some (.cells cs t (0, 0)), fun _ _ h hw => (h g rfl).trans hw⟩

theorem blk_cell {w : World} {g : Nat} {t : TypeId} {cs : Array Value} (h : (blk g t cs).ok w) (i : Nat) : w.cell? ⟨g, i, none⟩ = cs[i]? := cell_of_row w g i cs t (0, 0) h
theorem blk_frozen {w : World} {g : Nat} {t : TypeId} {cs : Array Value} (h : (blk g t cs).ok w) (i : Nat) : w.frozen? ⟨g, i, none⟩ = false := frozen_of_row w g i cs t h
theorem blk_lt {w : World} {g : Nat} {t : TypeId} {cs : Array Value} (h : (blk g t cs).ok w) : g < w.heap.size := by
  have h' : w.heap[g]? = some (.cells cs t (0, 0)) := h
  exact (Array.getElem?_eq_some_iff.1 h').1

/-- Tables: the shape of a type. -/
def aggT (P : Program) (t : TypeId) : Option Bool := (P.underlying t).map fun d => match d with | .struct _ | .array _ _ => true | _ => false
def sizeT (P : Program) (t : TypeId) : Option Nat := (P.info? t).map (·.size)
def zeroT (P : Program) (t : TypeId) : Option Value := (P.info? t).bind (·.zero)

theorem run_isAgg {P : Program} {t : TypeId} {b : Bool} (h : aggT P t = some b) (w : World) : (isAgg t).run P w = .ok b w := by
  unfold aggT at h
  cases hu : P.underlying t with
  | none => simp [hu] at h
  | some d =>
    simp [hu] at h
    unfold isAgg
    rw [Sem.run_bind, run_underlying hu w]
    cases d <;> simp_all
theorem run_sizeOf {P : Program} {t : TypeId} {n : Nat} (h : sizeT P t = some n) (w : World) : (sizeOf t).run P w = .ok n w := by
  unfold sizeT at h
  cases hq : P.info? t with
  | none => simp [hq] at h
  | some i => simp [hq] at h; simp [sizeOf, typeInfo, hq, h]
theorem run_zero {P : Program} {t : TypeId} {z : Value} (h : zeroT P t = some z) (w : World) : (zeroValue t).run P w = .ok z w := by
  unfold zeroT at h
  cases hq : P.info? t with
  | none => simp [hq] at h
  | some i => simp [hq] at h; simp [zeroValue, typeInfo, hq, h]

section
variable {P : Program} {w0 w : World} {F : Nat → Prop} {L M : List Res} {k : Value → World → Prop}

theorem Hp.alloc (H : Hp w0 F w L M) (t : TypeId) {z : Value} {cs : Array Value} (hz : zeroT P t = some z) (hcs : z.cells = cs)
    (h : ∀ g w', Hp w0 F w' (blk g t cs :: L) M → k (.pointer (some ⟨g, 0, none⟩)) w') : allocK P t w k := by
  unfold allocK
  refine ⟨_, w.alloc (.cells z.cells t), ?_, h w.heap.size _ (H.add (Keeps.alloc _ _) _ (by subst hcs; exact heap_alloc_new w _) ?_)⟩
  · simp [Instr.alloc, run_zero hz, newVar, newRow]
  · rintro g rfl; exact ⟨Nat.le_refl _, by simp⟩
theorem Hp.box (H : Hp w0 F w L M) (t : TypeId) (v : Value) {cs : Array Value} (hcs : v.cells = cs)
    (h : ∀ g w', Hp w0 F w' (blk g t cs :: L) M → k (.pointer (some ⟨g, 0, none⟩)) w') : boxK P t v w k := by
  unfold boxK
  refine ⟨_, w.alloc (.cells v.cells t), ?_, h w.heap.size _ (H.add (Keeps.alloc _ _) _ (by subst hcs; exact heap_alloc_new w _) ?_)⟩
  · simp [Instr.box, newVar, newRow]
  · rintro g rfl; exact ⟨Nat.le_refl _, by simp⟩

/-- A cell read. -/
theorem load_cell {a : Addr} {ty : TypeId} {u : Value} (hagg : aggT P ty = some false) (hc : w.cell? a = some u) (h : k u w) : loadK P ty (.pointer (some a)) w k := by
  unfold loadK
  refine ⟨u, w, ?_, h⟩
  simp [Instr.loadAt, Instr.sureAddr, loadVar, run_isAgg hagg, hc]
theorem Hp.load (H : Hp w0 F w L M) (n : Nat) {g i : Nat} {t ty : TypeId} {cs : Array Value} {u : Value} (hn : L[n]? = some (blk g t cs)) (hagg : aggT P ty = some false) (hc : cs[i]? = some u)
    (h : k u w) : loadK P ty (.pointer (some ⟨g, i, none⟩)) w k := load_cell hagg ((blk_cell (H.get n hn) i).trans hc) h
theorem Hp.loadAll (H : Hp w0 F w L M) (n : Nat) {g : Nat} {t ty : TypeId} {cs : Array Value} (hn : L[n]? = some (blk g t cs)) (hagg : aggT P ty = some true) (hs : sizeT P ty = some cs.size)
    (h : k (.agg cs) w) : loadK P ty (.pointer (some ⟨g, 0, none⟩)) w k := by
  unfold loadK
  refine ⟨_, w, ?_, h⟩
  have hb : w.heap[g]? = some (.cells cs t (0, 0)) := H.get n hn
  unfold aggT at hagg
  cases hu : P.underlying ty with
  | none => simp [hu] at hagg
  | some d =>
    simp [hu] at hagg
    have := run_loadVar_row (P := P) w g t ty cs (0, 0) d hb hu (by cases d <;> simp_all) hs
    simpa [Instr.loadAt, Instr.sureAddr] using this

theorem storeCells_run {P : Program} {g : Nat} {t : TypeId} (vs : List Value) : ∀ (w : World) (cs : Array Value) (i : Nat), w.heap[g]? = some (.cells cs t (0, 0)) → i + vs.length ≤ cs.size →
    (∀ v ∈ vs, v.oneCell' = true) → ∃ w', (storeCells ⟨g, 0, none⟩ vs i).run P w = .ok () w' ∧ Keeps (fun x => x = g) w w' ∧
      w'.heap[g]? = some (.cells (cs.toList.take i ++ vs ++ cs.toList.drop (i + vs.length)).toArray t (0, 0)) := by
  induction vs with
  | nil =>
    intro w cs i hb _ _
    refine ⟨w, by simp [storeCells], Keeps.refl _ _, ?_⟩
    simp [hb]
  | cons v vs ih =>
    intro w cs i hb hlen h1
    simp only [List.length_cons] at hlen
    have hadd : (⟨g, 0, none⟩ : Addr).add i = ⟨g, i, none⟩ := by unfold Addr.add; split <;> simp_all
    have hcell : w.cell? ⟨g, i, none⟩ = some cs[i] := by rw [cell_of_row w g i cs t (0, 0) hb]; exact Array.getElem?_eq_getElem (by omega)
    have hfz : w.frozen? ⟨g, i, none⟩ = false := frozen_of_row w g i cs t hb
    have hb' := heap_setCell_same w g i cs t v hb
    obtain ⟨w', hr, hk, hb2⟩ := ih (w.setCell ⟨g, i, none⟩ v) (cs.setIfInBounds i v) (i + 1) hb' (by simp; omega) (fun u hu => h1 u (.tail _ hu))
    refine ⟨w', ?_, (Keeps.setCell w ⟨g, i, none⟩ v).trans hk (fun _ _ h => h), ?_⟩
    · have hs := run_store P w ⟨g, i, none⟩ v .plain (h1 v (.head _))
      simp [storeCells, hadd, hs, hcell, hfz, hr]
    · rw [hb2]
      congr 3
      simp only [Array.toList_setIfInBounds, List.length_cons]
      rw [List.take_set, List.drop_set_of_lt (by omega)]
      have : (cs.toList.take (i + 1)).set i v = cs.toList.take i ++ [v] := by
        rw [List.take_succ_eq_append_getElem (by simpa using (by omega : i < cs.size))]
        rw [List.set_append_right _ _ (by simp; omega)]
        simp [Nat.min_eq_left (by omega : i ≤ cs.size)]
      rw [this]
      simp [Nat.add_assoc, Nat.add_comm 1]

theorem Hp.store (H : Hp w0 F w L M) (n : Nat) {g i : Nat} {t ty : TypeId} {cs : Array Value} {u : Value} (hn : L[n]? = some (blk g t cs)) (hs : sizeT P ty = some 1) (hi : i < cs.size) (h1 : u.oneCell' = true)
    (h : ∀ w', Hp w0 F w' (L.set n (blk g t (cs.setIfInBounds i u))) M → k undef w') : storeK P ty (.pointer (some ⟨g, i, none⟩)) u w k := by
  have hb : w.heap[g]? = some (.cells cs t (0, 0)) := H.get n hn
  have hcell : w.cell? ⟨g, i, none⟩ = some cs[i] := by rw [cell_of_row w g i cs t (0, 0) hb]; exact Array.getElem?_eq_getElem hi
  have hfz : w.frozen? ⟨g, i, none⟩ = false := frozen_of_row w g i cs t hb
  have hcells : u.cells = #[u] := by cases u <;> first | rfl | cases h1
  unfold storeK
  refine ⟨w.setCell ⟨g, i, none⟩ u, ?_, h _ (H.turn n hn _ (Keeps.setCell w ⟨g, i, none⟩ u) (heap_setCell_same w g i cs t u hb) ?_)⟩
  · have hst := run_store P w ⟨g, i, none⟩ u .plain h1
    have hadd : (⟨g, i, none⟩ : Addr).add 0 = ⟨g, i, none⟩ := by simp [Addr.add]
    simp [Instr.storeAt, Instr.sureAddr, storeVar, hcells, run_sizeOf hs, storeCells, hadd, hst, hcell, hfz]
  · rintro x rfl; exact ⟨by simpa using blk_lt (H.get n hn), .inl rfl⟩

theorem Hp.storeAll (H : Hp w0 F w L M) (n : Nat) {g : Nat} {t ty : TypeId} {cs cs' : Array Value} (hn : L[n]? = some (blk g t cs)) (hs : sizeT P ty = some cs.size) (hs' : cs'.size = cs.size) (h1 : ∀ v ∈ cs'.toList, v.oneCell' = true)
    (h : ∀ w', Hp w0 F w' (L.set n (blk g t cs')) M → k undef w') : storeK P ty (.pointer (some ⟨g, 0, none⟩)) (.agg cs') w k := by
  have hb : w.heap[g]? = some (.cells cs t (0, 0)) := H.get n hn
  obtain ⟨w', hr, hk, hb'⟩ := storeCells_run (P := P) cs'.toList w cs 0 hb (by simp; omega) h1
  unfold storeK
  refine ⟨w', ?_, h _ (H.turn n hn _ hk ?_ ?_)⟩
  · simp [Instr.storeAt, Instr.sureAddr, storeVar, Value.cells, run_sizeOf hs, hs', hr]
  · show w'.heap[g]? = _
    rw [hb']
    have : cs.toList.drop (0 + cs'.toList.length) = [] := by rw [List.drop_eq_nil_iff]; simp; omega
    rw [this]; simp
  · rintro x rfl
    refine ⟨?_, .inl rfl⟩
    exact Nat.lt_of_lt_of_le (blk_lt (H.get n hn)) hk.size

/-- A call. -/
theorem call_fn {g : FuncId} {args : List Value} {post : Value → World → Prop} (hc : Fun P g args w post)
    (h : ∀ v w', post v w' → k v w') : callK P (.func (.func g) #[] #[]) args w k := by
  unfold callK
  have : (#[] : Array Value).toList ++ args ++ (#[] : Array Value).toList = args := by simp
  show Fun P g _ w k
  rw [this]
  exact hc.mono h
theorem call_clo {g : FuncId} {args cap : List Value} {post : Value → World → Prop} (hc : Fun P g (args ++ cap) w post)
    (h : ∀ v w', post v w' → k v w') : callK P (.func (.func g) #[] cap.toArray) args w k := by
  unfold callK
  show Fun P g _ w k
  simpa using hc.mono h
theorem cond_split {b : Bool} {p q : Prop} (hp : b = true → p) (hq : b = false → q) : condB b p q := by
  cases h : b
  · exact .no rfl (hq h)
  · exact .yes rfl (hp h)
theorem cond_yes {b : Bool} {p q : Prop} (hb : b = true) (hp : p) : condB b p q := .yes hb hp
theorem cond_no {b : Bool} {p q : Prop} (hb : b = false) (hq : q) : condB b p q := .no hb hq
end
end Go.Dk
end

/- Bits of numbers: plain lemmas, nothing of Go. -/
namespace Go.Dk

/-- How many bits are set. -/
def popc (n : Nat) : Nat := if h : n = 0 then 0 else n % 2 + popc (n / 2)
termination_by n
decreasing_by omega

theorem popc_zero : popc 0 = 0 := by unfold popc; rfl
theorem popc_pos {n : Nat} (h : n ≠ 0) : popc n = n % 2 + popc (n / 2) := by rw [popc]; simp [h]
theorem popc_step (n : Nat) : popc n = n % 2 + popc (n / 2) := by
  by_cases h : n = 0
  · subst h; simp [popc_zero]
  · exact popc_pos h

theorem popc_and_pred {w : Nat} : w ≠ 0 → popc (w &&& (w - 1)) + 1 = popc w := by
  induction w using Nat.strongRecOn with
  | _ w ih =>
    intro h
    have hm := Nat.and_mod_two_pow (a := w) (b := w - 1) (n := 1)
    have hd : (w &&& (w - 1)) / 2 = w / 2 &&& (w - 1) / 2 := by
      have := Nat.and_div_two_pow (a := w) (b := w - 1) (n := 1)
      simpa using this
    rw [popc_step w, popc_step (w &&& (w - 1)), hd]
    have hm2 : (w &&& (w - 1)) % 2 = 0 := by
      rcases Nat.mod_two_eq_zero_or_one w with h0 | h0
      · have := @Nat.and_mod_two_pow w (w - 1) 1
        simp only [Nat.pow_one] at this
        rw [this, h0]; simp
      · have := @Nat.and_mod_two_pow w (w - 1) 1
        simp only [Nat.pow_one] at this
        have h1 : (w - 1) % 2 = 0 := by omega
        rw [this, h1]; simp
    rw [hm2]
    rcases Nat.mod_two_eq_zero_or_one w with h0 | h0
    · have h1 : (w - 1) / 2 = w / 2 - 1 := by omega
      have := ih (w / 2) (by omega) (by omega)
      rw [h1, h0]; omega
    · have h1 : (w - 1) / 2 = w / 2 := by omega
      rw [h1, h0, Nat.and_self]; omega

theorem popc_split (n k : Nat) : popc n = popc (n % 2 ^ k) + popc (n / 2 ^ k) := by
  induction k generalizing n with
  | zero => simp [Nat.mod_one, popc_zero]
  | succ k ih =>
    rw [popc_step n, ih (n / 2), popc_step (n % 2 ^ (k + 1))]
    have e1 : n % 2 ^ (k + 1) % 2 = n % 2 := by
      rw [Nat.pow_succ, Nat.mul_comm, Nat.mod_mul_right_mod]
    have e2 : n % 2 ^ (k + 1) / 2 = n / 2 % 2 ^ k := by
      rw [Nat.pow_succ, Nat.mul_comm, Nat.mod_mul_right_div_self]
    have e3 : n / 2 / 2 ^ k = n / 2 ^ (k + 1) := by
      rw [Nat.div_div_eq_div_mul, Nat.pow_succ, Nat.mul_comm]
    rw [e1, e2, e3]; omega

/-- The bits that are set, below k. -/
def bitsBelow (n k : Nat) : List Nat := (List.range k).filter fun p => n.testBit p
theorem bitsBelow_succ (n k : Nat) : bitsBelow n (k + 1) = bitsBelow n k ++ (if n.testBit k then [k] else []) := by
  unfold bitsBelow
  rw [List.range_succ, List.filter_append]
  by_cases h : n.testBit k <;> simp [h]
theorem mem_bitsBelow {n k p : Nat} : p ∈ bitsBelow n k ↔ p < k ∧ n.testBit p = true := by
  unfold bitsBelow; simp
theorem bitsBelow_le (n k : Nat) : (bitsBelow n k).length ≤ k := by
  unfold bitsBelow; have := List.length_filter_le (fun p => n.testBit p) (List.range k); simpa using this
theorem popc_bitsBelow (n k : Nat) : (bitsBelow n k).length = popc (n % 2 ^ k) := by
  induction k with
  | zero => simp [bitsBelow, Nat.mod_one, popc_zero]
  | succ k ih =>
    rw [bitsBelow_succ, List.length_append, ih, popc_split (n % 2 ^ (k + 1)) k]
    have e1 : n % 2 ^ (k + 1) % 2 ^ k = n % 2 ^ k := by
      rw [Nat.pow_succ]; exact Nat.mod_mul_right_mod _ _ _
    have e2 : n % 2 ^ (k + 1) / 2 ^ k = n / 2 ^ k % 2 := by
      rw [Nat.pow_succ]; exact Nat.mod_mul_right_div_self _ _ _
    rw [e1, e2]
    have hb : n.testBit k = decide (n / 2 ^ k % 2 = 1) := by rw [Nat.testBit_eq_decide_div_mod_eq]
    rw [hb]
    rcases Nat.mod_two_eq_zero_or_one (n / 2 ^ k) with h | h
    · simp [h, popc_zero]
    · rw [h]; simp [popc_step 1, popc_zero]
/-- The points of a set, rising. -/
abbrev pts (n : Nat) : List Nat := bitsBelow n 256
theorem pts_length {n : Nat} (h : n < 2 ^ 256) : (pts n).length = popc n := by
  rw [pts, popc_bitsBelow, Nat.mod_eq_of_lt h]

/-- A set out of a condition on its points. -/
def mkSet (f : Nat → Bool) : Nat → Nat
  | 0 => 0
  | k + 1 => mkSet f k + if f k then 2 ^ k else 0
theorem mkSet_lt (f : Nat → Bool) (k : Nat) : mkSet f k < 2 ^ k := by
  induction k with
  | zero => simp [mkSet]
  | succ k ih => simp only [mkSet]; split <;> (rw [Nat.pow_succ]; omega)
theorem testBit_mkSet (f : Nat → Bool) (k p : Nat) : (mkSet f k).testBit p = (decide (p < k) && f p) := by
  induction k with
  | zero => simp [mkSet]
  | succ k ih =>
    simp only [mkSet]
    have hlt := mkSet_lt f k
    by_cases hf : f k
    · simp only [hf, if_true]
      have e : mkSet f k + 2 ^ k = mkSet f k ||| 2 ^ k := by
        rw [Nat.or_comm]
        have := Nat.two_pow_add_eq_or_of_lt hlt 1
        simp at this
        omega
      rw [e, Nat.testBit_or, ih, Nat.testBit_two_pow]
      by_cases h1 : p < k
      · have : ¬ k = p := by omega
        simp [h1, this, Nat.lt_succ_of_lt h1]
      · by_cases h2 : k = p
        · subst h2; simp [hf]
        · have : ¬ p < k + 1 := by omega
          simp [h1, h2, this]
    · simp only [hf, if_false, Bool.false_eq_true, Nat.add_zero]
      rw [ih]
      by_cases h1 : p < k
      · simp [h1, Nat.lt_succ_of_lt h1]
      · by_cases h2 : p = k
        · subst h2; simp [hf]
        · have : ¬ p < k + 1 := by omega
          simp [h1, this]
abbrev setOf (f : Nat → Bool) : Nat := mkSet f 256
theorem setOf_lt (f : Nat → Bool) : setOf f < 2 ^ 256 := mkSet_lt f 256
theorem testBit_setOf (f : Nat → Bool) (p : Nat) : (setOf f).testBit p = (decide (p < 256) && f p) := testBit_mkSet f 256 p
theorem testBit_hi {n p : Nat} (hn : n < 2 ^ 256) (hp : 256 ≤ p) : n.testBit p = false :=
  Nat.testBit_lt_two_pow (Nat.lt_of_lt_of_le hn (Nat.pow_le_pow_right (by decide) hp))
theorem set_ext {n m : Nat} (hn : n < 2 ^ 256) (hm : m < 2 ^ 256) (h : ∀ p, p < 256 → n.testBit p = m.testBit p) : n = m := by
  apply Nat.eq_of_testBit_eq; intro p
  by_cases hp : p < 256
  · exact h p hp
  · rw [testBit_hi hn (by omega), testBit_hi hm (by omega)]
theorem setOf_self {n : Nat} (hn : n < 2 ^ 256) : setOf (fun p => n.testBit p) = n := set_ext (setOf_lt _) hn fun p hp => by simp [testBit_setOf, hp]
theorem or_lt {a b : Nat} (ha : a < 2 ^ 256) (hb : b < 2 ^ 256) : a ||| b < 2 ^ 256 := Nat.or_lt_two_pow ha hb
theorem and_lt {a b : Nat} (ha : a < 2 ^ 256) : a &&& b < 2 ^ 256 := Nat.lt_of_le_of_lt Nat.and_le_left ha
/-- The points of the first alone. -/
def lessN (a b : Nat) : Nat := setOf fun p => a.testBit p && !b.testBit p
theorem testBit_lessN {a : Nat} (ha : a < 2 ^ 256) (b p : Nat) : (lessN a b).testBit p = (a.testBit p && !b.testBit p) := by
  unfold lessN; rw [testBit_setOf]
  by_cases hp : p < 256
  · simp [hp]
  · simp [hp, testBit_hi ha (Nat.le_of_not_lt hp)]
theorem lessN_lt (a b : Nat) : lessN a b < 2 ^ 256 := setOf_lt _
/-- All points of n inputs. -/
def allN (n : Nat) : Nat := setOf fun p => decide (p < 2 ^ n)
/-- The points whose bit i is so. -/
def halfN (n i : Nat) (one : Bool) : Nat := setOf fun p => n.testBit p && (p.testBit i == one)

/-- The set of a list of points. -/
def orAll : List Nat → Nat
  | [] => 0
  | p :: l => 2 ^ p ||| orAll l
theorem testBit_orAll (l : List Nat) (q : Nat) : (orAll l).testBit q = decide (q ∈ l) := by
  induction l with
  | nil => simp [orAll]
  | cons p l ih =>
    simp only [orAll, Nat.testBit_or, ih, Nat.testBit_two_pow, List.mem_cons]
    rw [Bool.eq_iff_iff]; simp; constructor
    · rintro (h | h)
      · exact .inl h.symm
      · exact .inr h
    · rintro (h | h)
      · exact .inl h.symm
      · exact .inr h
theorem orAll_snoc (l : List Nat) (p : Nat) : orAll (l ++ [p]) = orAll l ||| 2 ^ p := by
  apply Nat.eq_of_testBit_eq; intro q
  rw [testBit_orAll, Nat.testBit_or, testBit_orAll, Nat.testBit_two_pow, Bool.eq_iff_iff]
  simp
  constructor
  · rintro (h | h)
    · exact .inl h
    · exact .inr h.symm
  · rintro (h | h)
    · exact .inl h
    · exact .inr h.symm
theorem orAll_lt {l : List Nat} {k : Nat} (h : ∀ p ∈ l, p < k) : orAll l < 2 ^ k := by
  induction l with
  | nil => simp [orAll]; exact Nat.two_pow_pos k
  | cons p l ih => exact Nat.or_lt_two_pow (Nat.pow_lt_pow_right (by decide) (h p (.head _))) (ih fun q hq => h q (.tail _ hq))
theorem testBit_and_one (p i : Nat) : ((((p / 2 ^ i &&& 1 : Nat) : Int) == 1) : Bool) = p.testBit i := by
  rw [Nat.testBit_eq_decide_div_mod_eq, Nat.and_one_is_mod]
  generalize p / 2 ^ i = q
  rw [Bool.eq_iff_iff, beq_iff_eq, decide_eq_true_eq]
  omega
theorem allN_eq (n : Nat) (hn : n ≤ 8) : allN n = orAll (List.range (2 ^ n)) := by
  have h2 : 2 ^ n ≤ 2 ^ 8 := Nat.pow_le_pow_right (by decide) hn
  refine set_ext (setOf_lt _) (orAll_lt (fun p hp => by have := List.mem_range.1 hp; omega)) fun p hp => ?_
  rw [testBit_orAll, allN, testBit_setOf]; simp [hp]
theorem halfN_eq (n i : Nat) (one : Bool) : halfN n i one = orAll ((pts n).filter fun p => p.testBit i == one) := by
  refine set_ext (setOf_lt _) (orAll_lt (fun p hp => by have := (mem_bitsBelow.1 (List.mem_filter.1 hp).1).1; omega)) fun p hp => ?_
  rw [testBit_orAll, halfN, testBit_setOf, Bool.eq_iff_iff]
  simp [hp, mem_bitsBelow]
theorem halfN_lt (n i : Nat) (one : Bool) : halfN n i one < 2 ^ 256 := setOf_lt _
theorem allN_lt (n : Nat) : allN n < 2 ^ 256 := setOf_lt _
end Go.Dk

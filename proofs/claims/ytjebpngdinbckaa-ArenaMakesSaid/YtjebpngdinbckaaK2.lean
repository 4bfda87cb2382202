import Derived.Test.YtjebpngdinbckaaK
/- Cubes and their points: plain lemmas, nothing of Go. -/
namespace Go.Dk

theorem and_eq_iff {m v : Nat} (hv : v &&& m = v) (p : Nat) : p &&& m = v ↔ ∀ i, m.testBit i = true → p.testBit i = v.testBit i := by
  constructor
  · intro h i hi
    have := congrArg (·.testBit i) h
    simp only [Nat.testBit_and, hi, Bool.and_true] at this
    exact this
  · intro h
    apply Nat.eq_of_testBit_eq; intro i
    have hvi := congrArg (·.testBit i) hv
    simp only [Nat.testBit_and] at hvi
    rw [Nat.testBit_and]
    cases hm : m.testBit i
    · rw [hm] at hvi; simpa using hvi
    · simp [h i hm]
theorem testBit_cubeP {m v n p : Nat} (hn : n ≤ 8) : (cubeP m v n).testBit p = true ↔ p < 2 ^ n ∧ p &&& m = v := by
  have h2 : 2 ^ n ≤ 2 ^ 8 := Nat.pow_le_pow_right (by decide) hn
  rw [cubeP, testBit_setOf]
  simp
  intro h _
  omega
theorem bit_lt {m n i : Nat} (hm : m < 2 ^ n) (hi : m.testBit i = true) : i < n := by
  rcases Nat.lt_or_ge i n with h | h
  · exact h
  · rw [bits_of_lt_pow hm h] at hi; cases hi
theorem sub_lt {m v n : Nat} (hm : m < 2 ^ n) (hv : v &&& m = v) : v < 2 ^ n := by rw [← hv]; exact Nat.lt_of_le_of_lt Nat.and_le_right hm
theorem zero_bits {a : Nat} : a = 0 ↔ ∀ i, a.testBit i = false := by
  constructor
  · rintro rfl i; simp
  · intro h; exact Nat.eq_of_testBit_eq fun i => by rw [h i]; simp

/-! ### How many points a cube has -/
theorem countP_double (f : Nat → Bool) (N : Nat) : (List.range (2 * N)).countP f = (List.range N).countP (fun q => f (2 * q)) + (List.range N).countP (fun q => f (2 * q + 1)) := by
  induction N with
  | zero => simp
  | succ N ih =>
    have e : 2 * (N + 1) = 2 * N + 1 + 1 := by omega
    rw [e, List.range_succ, List.range_succ, List.range_succ, List.countP_append, List.countP_append, ih, List.countP_append, List.countP_append]
    simp only [List.countP_singleton]
    omega
theorem countP_below (g : Nat → Bool) {N M : Nat} (h : N ≤ M) : (List.range M).countP (fun p => decide (p < N) && g p) = (List.range N).countP g := by
  induction M with
  | zero =>
    obtain rfl : N = 0 := by omega
    simp
  | succ M ih =>
    rw [List.range_succ, List.countP_append, List.countP_singleton]
    by_cases hN : N ≤ M
    · rw [ih hN, decide_eq_false (by omega)]; simp
    · obtain rfl : N = M + 1 := by omega
      rw [List.range_succ, List.countP_append, List.countP_singleton]
      have : (List.range M).countP (fun p => decide (p < M + 1) && g p) = (List.range M).countP g := by
        refine List.countP_congr fun p hp => ?_
        have := List.mem_range.1 hp
        simp; omega
      rw [this]; simp
def cubeN (m v n : Nat) : Nat := (List.range (2 ^ n)).countP fun p => p &&& m == v
theorem half_and (p m v : Nat) : p &&& m = v ↔ p / 2 &&& m / 2 = v / 2 ∧ p % 2 &&& m % 2 = v % 2 := by
  have h1 : (p &&& m) / 2 = p / 2 &&& m / 2 := by simpa using Nat.and_div_two_pow (a := p) (b := m) (n := 1)
  have h2 : (p &&& m) % 2 = p % 2 &&& m % 2 := by simpa using Nat.and_mod_two_pow (a := p) (b := m) (n := 1)
  rw [← h1, ← h2]
  constructor
  · rintro rfl; exact ⟨rfl, rfl⟩
  · rintro ⟨h, k⟩; omega
theorem cubeN_count : ∀ (n m v : Nat), m < 2 ^ n → v &&& m = v → cubeN m v n * 2 ^ popc m = 2 ^ n := by
  intro n
  induction n with
  | zero =>
    intro m v hm hv
    obtain rfl : m = 0 := by simpa using hm
    have : v = 0 := by simpa using hv.symm
    subst this
    simp [cubeN, popc_zero]
  | succ n ih =>
    intro m v hm hv
    have hm2 : m / 2 < 2 ^ n := by rw [Nat.pow_succ] at hm; omega
    have hh := (half_and v m v).1 hv
    have ih' := ih (m / 2) (v / 2) hm2 hh.1
    have hc : cubeN m v (n + 1) = (List.range (2 ^ n)).countP (fun q => (2 * q) &&& m == v) + (List.range (2 ^ n)).countP (fun q => (2 * q + 1) &&& m == v) := by
      unfold cubeN
      rw [Nat.pow_succ, Nat.mul_comm, countP_double]
    have e0 : ∀ q, ((2 * q) &&& m == v) = ((q &&& m / 2 == v / 2) && (v % 2 == 0)) := by
      intro q
      rw [Bool.eq_iff_iff, Bool.and_eq_true, beq_iff_eq, beq_iff_eq, beq_iff_eq, half_and (2 * q)]
      rw [show 2 * q / 2 = q by omega, show 2 * q % 2 = 0 by omega, Nat.zero_and]
      constructor
      · rintro ⟨h, k⟩; exact ⟨h, k.symm⟩
      · rintro ⟨h, k⟩; exact ⟨h, k.symm⟩
    have e1 : ∀ q, ((2 * q + 1) &&& m == v) = ((q &&& m / 2 == v / 2) && (m % 2 == v % 2)) := by
      intro q
      rw [Bool.eq_iff_iff, Bool.and_eq_true, beq_iff_eq, beq_iff_eq, beq_iff_eq, half_and (2 * q + 1)]
      rw [show (2 * q + 1) / 2 = q by omega, show (2 * q + 1) % 2 = 1 by omega]
      have : 1 &&& m % 2 = m % 2 := by rcases Nat.mod_two_eq_zero_or_one m with h | h <;> rw [h] <;> rfl
      rw [this]
    simp only [e0, e1] at hc
    have hN : ∀ b : Bool, (List.range (2 ^ n)).countP (fun q => (q &&& m / 2 == v / 2) && b) = if b then cubeN (m / 2) (v / 2) n else 0 := by
      intro b; cases b
      · simp
      · simp [cubeN]
    rw [hN, hN] at hc
    rw [hc, popc_step m, Nat.pow_add, Nat.pow_succ, ← ih']
    rcases Nat.mod_two_eq_zero_or_one m with h | h
    · have hv2 : v % 2 = 0 := by have := hh.2; rw [h] at this; simpa using this.symm
      rw [h, hv2]
      simp
      generalize cubeN (m / 2) (v / 2) n = a
      generalize 2 ^ popc (m / 2) = b
      rw [Nat.add_mul, Nat.mul_two]
    · rcases Nat.mod_two_eq_zero_or_one v with hv2 | hv2
      · rw [h, hv2]; simp
        generalize cubeN (m / 2) (v / 2) n = a
        generalize 2 ^ popc (m / 2) = b
        rw [Nat.mul_comm 2 b, Nat.mul_assoc]
      · rw [h, hv2]; simp
        generalize cubeN (m / 2) (v / 2) n = a
        generalize 2 ^ popc (m / 2) = b
        rw [Nat.mul_comm 2 b, Nat.mul_assoc]
theorem popc_leB : ∀ (k n : Nat), n < 2 ^ k → popc n ≤ k
  | 0, n, h => by
    obtain rfl : n = 0 := by simpa using h
    rw [popc_zero]; exact Nat.le_refl _
  | k + 1, n, h => by
    rw [popc_step n]
    have := popc_leB k (n / 2) (by rw [Nat.pow_succ] at h; omega)
    omega
theorem popc_cubeP {m v n : Nat} (hn : n ≤ 8) (hm : m < 2 ^ n) (hv : v &&& m = v) : popc (cubeP m v n) = 2 ^ (n - popc m) := by
  have h2 : 2 ^ n ≤ 2 ^ 8 := Nat.pow_le_pow_right (by decide) hn
  have h1 : popc (cubeP m v n) = cubeN m v n := by
    rw [← pts_length (cubeP_lt m v n)]
    unfold pts bitsBelow
    rw [← List.countP_eq_length_filter, cubeN, ← countP_below _ (show 2 ^ n ≤ 256 by omega)]
    refine List.countP_congr fun p hp => ?_
    have := List.mem_range.1 hp
    rw [cubeP, testBit_setOf]
    simp [this]
  have hp := popc_leB n m hm
  have hc := cubeN_count n m v hm hv
  rw [h1]
  have e : 2 ^ n = 2 ^ (n - popc m) * 2 ^ popc m := by rw [← Nat.pow_add]; congr 1; omega
  rw [e] at hc
  exact Nat.eq_of_mul_eq_mul_right (Nat.two_pow_pos _) hc

/-! ### What two cubes have -/
def meetB (m v x y : Nat) : Bool := ((v ^^^ y) &&& m) &&& x == 0
def meetM (m x : Nat) : Nat := m ||| x
def meetV (m v x y : Nat) : Nat := (v &&& m) ||| (y &&& x)
def joinM (m v x y : Nat) : Nat := (m &&& x) &&& (255 - (v ^^^ y))
def holdsB (m v x y : Nat) : Bool := (m &&& (255 - x) == 0) && ((v ^^^ y) &&& m == 0)
theorem meet_right {m v x y n : Nat} (hm : m < 2 ^ n) (hv : v &&& m = v) (hx : x < 2 ^ n) (hy : y &&& x = y) :
    meetM m x < 2 ^ n ∧ meetV m v x y &&& meetM m x = meetV m v x y := by
  refine ⟨Nat.or_lt_two_pow hm hx, ?_⟩
  apply Nat.eq_of_testBit_eq; intro i
  simp only [meetM, meetV, Nat.testBit_and, Nat.testBit_or]
  cases m.testBit i <;> cases x.testBit i <;> cases v.testBit i <;> cases y.testBit i <;> rfl
theorem meet_points {m v x y n : Nat} (hn : n ≤ 8) (hv : v &&& m = v) (hy : y &&& x = y) :
    cubeP m v n &&& cubeP x y n = if meetB m v x y then cubeP (meetM m x) (meetV m v x y) n else 0 := by
  split
  · rename_i h
    rw [meetB, beq_iff_eq, zero_bits] at h
    have hmv : meetV m v x y &&& meetM m x = meetV m v x y := by
      apply Nat.eq_of_testBit_eq; intro i
      simp only [meetM, meetV, Nat.testBit_and, Nat.testBit_or]
      cases m.testBit i <;> cases x.testBit i <;> cases v.testBit i <;> cases y.testBit i <;> rfl
    refine set_ext (and_lt (cubeP_lt _ _ _)) (cubeP_lt _ _ _) fun p hp => ?_
    rw [Nat.testBit_and, Bool.eq_iff_iff, Bool.and_eq_true, testBit_cubeP hn, testBit_cubeP hn, testBit_cubeP hn, and_eq_iff hv, and_eq_iff hy, and_eq_iff hmv]
    constructor
    · rintro ⟨⟨h1, h2⟩, _, h3⟩
      refine ⟨h1, fun i hi => ?_⟩
      have a2 := h2 i
      have a3 := h3 i
      have a4 := h i
      simp only [meetM, meetV, Nat.testBit_and, Nat.testBit_or, Nat.testBit_xor] at hi a4 ⊢
      cases hm : m.testBit i <;> cases hx : x.testBit i <;> simp_all
    · rintro ⟨h1, h2⟩
      refine ⟨⟨h1, fun i hi => ?_⟩, h1, fun i hi => ?_⟩
      · have a2 := h2 i
        have a4 := h i
        simp only [meetM, meetV, Nat.testBit_and, Nat.testBit_or, Nat.testBit_xor] at a2 a4
        cases hx : x.testBit i <;> cases hvi : v.testBit i <;> cases hyi : y.testBit i <;> simp_all
      · have a2 := h2 i
        have a4 := h i
        simp only [meetM, meetV, Nat.testBit_and, Nat.testBit_or, Nat.testBit_xor] at a2 a4
        cases hx : m.testBit i <;> cases hvi : v.testBit i <;> cases hyi : y.testBit i <;> simp_all
  · rename_i h
    rw [Bool.not_eq_true, meetB, beq_eq_false_iff_ne] at h
    refine set_ext (and_lt (cubeP_lt _ _ _)) (by decide) fun p hp => ?_
    rw [Nat.zero_testBit, Nat.testBit_and, Bool.eq_false_iff]
    intro hc
    rw [Bool.and_eq_true, testBit_cubeP hn, testBit_cubeP hn, and_eq_iff hv, and_eq_iff hy] at hc
    apply h
    rw [zero_bits]
    intro i
    have a2 := hc.1.2 i
    have a3 := hc.2.2 i
    simp only [Nat.testBit_and, Nat.testBit_xor]
    cases hm : m.testBit i <;> cases hx : x.testBit i <;> simp_all
theorem holds_iff {m v x y : Nat} (hm : m < 256) (hx : x < 256) : holdsB m v x y = true ↔ ∀ i, m.testBit i = true → x.testBit i = true ∧ v.testBit i = y.testBit i := by
  unfold holdsB
  rw [Bool.and_eq_true, beq_iff_eq, beq_iff_eq, zero_bits, zero_bits]
  constructor
  · rintro ⟨h1, h2⟩ i hi
    have a1 := h1 i
    have a2 := h2 i
    rw [Nat.testBit_and, testBit_not8 hx, hi] at a1
    rw [Nat.testBit_and, Nat.testBit_xor, hi] at a2
    have hi8 : i < 8 := by
      rcases Nat.lt_or_ge i 8 with h | h
      · exact h
      · rw [testBit_hi8 hm h] at hi; cases hi
    simp [hi8] at a1
    simp at a2
    exact ⟨a1, a2⟩
  · intro h
    refine ⟨fun i => ?_, fun i => ?_⟩
    · rw [Nat.testBit_and, testBit_not8 hx]
      cases hi : m.testBit i
      · rfl
      · rw [(h i hi).1]; simp
    · rw [Nat.testBit_and, Nat.testBit_xor]
      cases hi : m.testBit i
      · simp
      · rw [(h i hi).2]; simp
theorem holds_points {m v x y n : Nat} (hn : n ≤ 8) (hm : m < 2 ^ n) (hv : v &&& m = v) (hx : x < 2 ^ n) (hy : y &&& x = y) :
    holdsB m v x y = (lessN (cubeP x y n) (cubeP m v n) == 0) := by
  have h2 : 2 ^ n ≤ 2 ^ 8 := Nat.pow_le_pow_right (by decide) hn
  rw [Bool.eq_iff_iff, holds_iff (by omega) (by omega), beq_iff_eq, zero_bits]
  have hl := cubeP_lt x y n
  constructor
  · intro h p
    rw [testBit_lessN hl, Bool.eq_false_iff]
    intro hc
    rw [Bool.and_eq_true, testBit_cubeP hn, Bool.not_eq_true', Bool.eq_false_iff, ne_eq, testBit_cubeP hn] at hc
    refine hc.2 ⟨hc.1.1, (and_eq_iff hv p).2 fun i hi => ?_⟩
    rw [(and_eq_iff hy p).1 hc.1.2 i (h i hi).1, (h i hi).2]
  · intro h i hi
    have key : ∀ p, p < 2 ^ n → p &&& x = y → p &&& m = v := by
      intro p hp hpx
      have := h p
      rw [testBit_lessN hl, (testBit_cubeP hn).2 ⟨hp, hpx⟩, Bool.true_and, Bool.not_eq_false'] at this
      exact ((testBit_cubeP hn).1 this).2
    have hyl := sub_lt hx hy
    have hyi := (and_eq_iff hv y).1 (key y hyl hy) i hi
    refine ⟨?_, hyi.symm⟩
    cases hxi : x.testBit i
    · have hin := bit_lt hm hi
      have h2i : 2 ^ i < 2 ^ n := Nat.pow_lt_pow_right (by decide) hin
      have hp : y ^^^ 2 ^ i < 2 ^ n := Nat.xor_lt_two_pow hyl h2i
      have hpx : (y ^^^ 2 ^ i) &&& x = y := by
        rw [and_eq_iff hy]
        intro j hj
        rw [Nat.testBit_xor, Nat.testBit_two_pow]
        have : i ≠ j := fun e => by subst e; rw [hxi] at hj; cases hj
        simp [this]
      have := (and_eq_iff hv _).1 (key _ hp hpx) i hi
      rw [Nat.testBit_xor, Nat.testBit_two_pow, hyi] at this
      simp at this
    · rfl
theorem join_lt {m v x y : Nat} (hm : m < 256) : joinM m v x y < 256 := and_lt8 (and_lt8 hm _) _
theorem join_bit {m v x y : Nat} (hv : v < 256) (hy : y < 256) (i : Nat) : (joinM m v x y).testBit i = true → m.testBit i = true ∧ x.testBit i = true ∧ v.testBit i = y.testBit i := by
  intro h
  unfold joinM at h
  rw [Nat.testBit_and, Nat.testBit_and, testBit_not8 (xor_lt8 hv hy), Nat.testBit_xor] at h
  simp at h
  exact ⟨h.1.1, h.1.2, h.2.2⟩
theorem join_bit' {m v x y : Nat} (hm : m < 256) (hv : v < 256) (hy : y < 256) (i : Nat) (h1 : m.testBit i = true) (h2 : x.testBit i = true) (h3 : v.testBit i = y.testBit i) : (joinM m v x y).testBit i = true := by
  unfold joinM
  have hi8 : i < 8 := by
    rcases Nat.lt_or_ge i 8 with h | h
    · exact h
    · rw [testBit_hi8 hm h] at h1; cases h1
  rw [Nat.testBit_and, Nat.testBit_and, testBit_not8 (xor_lt8 hv hy), Nat.testBit_xor, h1, h2, h3]
  simp [hi8]
theorem join_holds {m v x y : Nat} (hm : m < 256) (hv : v < 256) (hx : x < 256) (hy : y < 256) :
    holdsB (joinM m v x y) (v &&& joinM m v x y) m v = true ∧ holdsB (joinM m v x y) (v &&& joinM m v x y) x y = true := by
  rw [holds_iff (join_lt hm) hm, holds_iff (join_lt hm) hx]
  refine ⟨fun i hi => ?_, fun i hi => ?_⟩
  · have := join_bit hv hy i hi
    rw [Nat.testBit_and, hi]; simp [this.1]
  · have := join_bit hv hy i hi
    rw [Nat.testBit_and, hi]; simp [this.2.1, this.2.2]
theorem join_least {m v x y c s : Nat} (hm : m < 256) (hv : v < 256) (hx : x < 256) (hy : y < 256) (hc : c < 256) (h1 : holdsB c s m v = true) (h2 : holdsB c s x y = true) :
    holdsB c s (joinM m v x y) (v &&& joinM m v x y) = true := by
  rw [holds_iff hc hm] at h1
  rw [holds_iff hc hx] at h2
  rw [holds_iff hc (join_lt hm)]
  intro i hi
  have a1 := h1 i hi
  have a2 := h2 i hi
  have := join_bit' hm hv hy i a1.1 a2.1 (a1.2.symm.trans a2.2)
  refine ⟨this, ?_⟩
  rw [Nat.testBit_and, this, a1.2]; simp
end Go.Dk

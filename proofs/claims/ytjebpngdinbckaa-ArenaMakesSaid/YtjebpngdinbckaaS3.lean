import Derived.Test.YtjebpngdinbckaaS2

/- The references of chapter 1. -/
namespace Go.Proofs.Ytjebpngdinbckaa
open Go.Dk
attribute [local irreducible] IntKind.wrap

/-- The round's end of a counting loop. -/
theorem up {i : Nat} (hi : i < 4611686018427387904) : Value.int .i64 (IntKind.i64.wrap ((i : Int) + 1)) = Value.int .i64 ((i + 1 : Nat) : Int) :=
  congrArg (Value.int .i64) (wrap_i64_in (by omega) (by omega))

theorem ent155 : enters Try.prog 155 = true := by kernel_rfl
theorem c155 (n : Nat) (hn : n ≤ 63) (w : World) : Fun Try.prog 155 [.int .i64 (n : Int)] w fun v w' => v = .int .u64 ((2 ^ n : Nat) : Int) ∧ Same w w' := by
  refine fun_of_W (N := 13) Try.func155 ent155 rfl rfl rfl (by simp) ?_
  refine loop_rule (γ := Nat) _ rfl (fun i => [(4, .int .i64 (i : Int)), (3, .int .u64 ((2 ^ i : Nat) : Int))]) (fun i w' => i ≤ n ∧ w' = w) (fun i => n - i) 0 ⟨rfl, rfl, trivial⟩ ⟨by omega, rfl⟩ ?_
  rintro i u w' ⟨hi, rfl⟩
  refine cond_split (fun h => ?_) (fun h => ?_)
  · have hlt : i < n := by have := of_decide_eq_true h; omega
    refine ⟨i + 1, by omega, ⟨up (by omega), congrArg (Value.int .u64) ?_, trivial⟩, by omega, rfl⟩
    have h1 : 2 ^ (i + 1) ≤ 2 ^ 63 := Nat.pow_le_pow_right (by decide) (by omega)
    have h2 : 2 ^ (i + 1) = 2 ^ i * 2 := Nat.pow_succ ..
    rw [h2] at h1 ⊢
    generalize 2 ^ i = q at *
    rw [wrap_u64_in (by omega) (by omega)]; omega
  · have : i = n := by have := of_decide_eq_false h; omega
    subst this
    exact ⟨rfl, Keeps.refl _ _⟩

theorem ent48 : enters Try.prog 48 = true := by kernel_rfl
theorem c48 (p i : Nat) (hp : p < 9223372036854775808) (hi : i ≤ 62) (w : World) : Fun Try.prog 48 [.int .i64 (p : Int), .int .i64 (i : Int)] w fun v w' => v = .int .i64 ((p / 2 ^ i % 2 : Nat) : Int) ∧ Same w w' := by
  refine fun_of_W (N := 11) Try.func48 ent48 rfl rfl rfl (by simp) ?_
  refine call_fn (c155 i (by omega) _) ?_
  rintro v w1 ⟨rfl, hk⟩
  have h1 : 2 ^ i ≤ 2 ^ 62 := Nat.pow_le_pow_right (by decide) hi
  have h2 : 0 < 2 ^ i := Nat.two_pow_pos i
  refine conv_int (by kernel_rfl) Try.underlying3 ?_
  rw [wrap_i64_in (by omega) (by omega)]
  refine bin_quo_i64 (by omega) (by omega) (by omega) ?_
  refine bin_rem_i64 (Int.ediv_nonneg (by omega) (by omega)) (by omega) ?_
  exact ⟨congrArg (Value.int .i64) (by simp), hk⟩

/-! ### Flags -/
theorem T29 : SlT Try.prog 29 4 (.bool false) 1 1 := ⟨Try.underlying29, by kernel_rfl, rfl, by decide⟩
theorem agg4 : aggT Try.prog 4 = some false := by kernel_rfl
theorem size4 : sizeT Try.prog 4 = some 1 := by kernel_rfl
def bls (l : List Bool) : List Value := l.map Value.bool
theorem bls_get {l : List Bool} {i : Nat} (hi : i < l.length) : (bls l)[i]? = some (.bool l[i]) := by simp [bls, hi]
/-- The flags of a set, below k. -/
def flagsTo (n k : Nat) : List Bool := (List.range k).map fun p => n.testBit p
abbrev flagsN (n : Nat) : List Bool := flagsTo n 256
theorem flagsTo_length (n k : Nat) : (flagsTo n k).length = k := by simp [flagsTo]
theorem flagsTo_succ (n k : Nat) : flagsTo n (k + 1) = flagsTo n k ++ [n.testBit k] := by simp [flagsTo, List.range_succ]
theorem flagsN_get {n p : Nat} (hp : p < 256) : (bls (flagsN n))[p]? = some (.bool (n.testBit p)) := by simp [bls, flagsN, flagsTo, hp]

theorem div_pow_mod (a k : Nat) : decide (((a / 2 ^ k % 2 : Nat) : Int) = 1) = a.testBit k := by
  rw [Nat.testBit_eq_decide_div_mod_eq]
  generalize a / 2 ^ k = q
  rw [Bool.eq_iff_iff, decide_eq_true_eq, decide_eq_true_eq]; omega
theorem bin_rem_u64 {x y : Nat} (hy : 0 < y) {t : TypeId} {xo yo : Operand} {w : World} {kk : Value → World → Prop} {P : Program} (h : kk (.int .u64 ((x % y : Nat) : Int)) w) : binK P .rem t xo yo (.int .u64 (x : Int)) (.int .u64 (y : Int)) w kk :=
  bin_rem (by omega) (by rw [Int.tmod_eq_emod_of_nonneg (by omega)]; simpa using h)
theorem bin_quo_u64 {x y : Nat} (hx : x < 18446744073709551616) (hy : 0 < y) {t : TypeId} {xo yo : Operand} {w : World} {kk : Value → World → Prop} {P : Program} (h : kk (.int .u64 ((x / y : Nat) : Int)) w) : binK P .quo t xo yo (.int .u64 (x : Int)) (.int .u64 (y : Int)) w kk :=
  bin_quo (by omega) (by
    rw [Int.tdiv_eq_ediv_of_nonneg (by omega), wrap_u64_in (Int.ediv_nonneg (by omega) (by omega)) (by
      have : ((x / y : Nat) : Int) = (x : Int) / y := by simp
      have h2 : x / y ≤ x := Nat.div_le_self x y
      omega)]
    simpa using h)

theorem ent40 : enters Try.prog 40 = true := by kernel_rfl
theorem c40 (n : Nat) (w : World) : Fun Try.prog 40 [sv n] w fun v w' => ∃ A c, v = .slice A 256 c ∧ NewR w w' (own 4 1 (.slice A 256 c) 256 (bls (flagsN n))) := by
  refine fun_of_W (N := 27) Try.func40 ent40 rfl rfl rfl (by simp) ?_
  have H := Hp.start0 w
  refine H.box 24 (sv n) (cs := sc n) rfl ?_
  intro g1 w1 H
  have H := H.ownNil 4 1
  refine loop_rule (γ := Nat × Option Addr × Nat) _ rfl (fun (i, A, c) => [(4, .int .i64 (i : Int)), (3, .slice A (64 * i) c)])
    (fun (i, A, c) w' => i ≤ 4 ∧ Hp w (fun _ => False) w' [own 4 1 (.slice A (64 * i) c) (64 * i) (bls (flagsTo n (64 * i))), blk g1 24 (sc n)] [])
    (fun (i, _, _) => 4 - i) (0, none, 0) ⟨rfl, rfl, trivial⟩ ⟨by decide, H⟩ ?_
  clear H
  rintro ⟨i, A, c⟩ u w2 ⟨hi, H⟩
  refine cond_split (fun h => ?_) (fun h => ?_)
  · have hi4 : i < 4 := by have := of_decide_eq_true h; omega
    refine idxAddr_arr Try.underlying24 size22 i rfl hi4 (o' := i) (by omega) ?_
    refine H.load 1 rfl agg22 (sc_get n i hi4) ?_
    refine loop_rule (γ := Nat × Option Addr × Nat) _ rfl (fun (k, A, c) => [(6, .int .i64 (k : Int)), (5, .int .u64 ((word n i / 2 ^ k : Nat) : Int)), (3, .slice A (64 * i + k) c)])
      (fun (k, A, c) w' => k ≤ 64 ∧ Hp w (fun _ => False) w' [own 4 1 (.slice A (64 * i + k) c) (64 * i + k) (bls (flagsTo n (64 * i + k))), blk g1 24 (sc n)] [])
      (fun (k, _, _) => 64 - k) (0, A, c) ⟨rfl, by show Value.int .u64 _ = _; simp, rfl, trivial⟩ ⟨by decide, H⟩ ?_
    clear H
    rintro ⟨k, A, c⟩ u2 w3 ⟨hk, H⟩
    refine cond_split (fun h => ?_) (fun h => ?_)
    · have hk4 : k < 64 := by have := of_decide_eq_true h; omega
      refine bin_rem_u64 (y := 2) (by omega) ?_
      have hb : (word n i / 2 ^ k % 2 : Nat) = 1 ↔ n.testBit (64 * i + k) = true := by
        have := testBit_word n i k
        rw [Nat.testBit_eq_decide_div_mod_eq] at this
        simp [hk4] at this
        rw [← this]; simp
      have hbv : (((word n i / 2 ^ k % 2 : Nat) : Int) == (1 : Int)) = n.testBit (64 * i + k) := by
        rw [Bool.eq_iff_iff, ← hb, beq_iff_eq]; omega
      refine H.buildOne T29 rfl ?_
      intro g2 w4 H
      refine H.appendOne 0 T29 rfl rfl (by omega) (by omega) ?_
      intro A' c' w5 H
      refine bin_quo_u64 (y := 2) (Nat.lt_of_le_of_lt (Nat.div_le_self _ _) (word_lt n i)) (by omega) ?_
      refine ⟨(k + 1, A', c'), by show 64 - (k + 1) < 64 - k; omega, ⟨up (by omega), ?_, rfl, trivial⟩, by show k + 1 ≤ 64; omega, ?_⟩
      · refine congrArg (Value.int .u64) ?_
        rw [Nat.div_div_eq_div_mul, Nat.pow_succ]
      · rw [hbv] at H
        show Hp w _ _ [own 4 1 (.slice A' (64 * i + (k + 1)) c') (64 * i + (k + 1)) (bls (flagsTo n (64 * i + (k + 1)))), _] []
        rw [show 64 * i + (k + 1) = 64 * i + k + 1 from rfl, flagsTo_succ]
        simpa [bls] using H
    · have hk4 : k = 64 := by have := of_decide_eq_false h; omega
      subst hk4
      exact ⟨(i + 1, A, c), by show 4 - (i + 1) < 4 - i; omega, ⟨up (by omega), rfl, trivial⟩, by show i + 1 ≤ 4; omega, H⟩
  · have hi4 : i = 4 := by have := of_decide_eq_false h; omega
    subst hi4
    exact ⟨A, c, rfl, H.out⟩

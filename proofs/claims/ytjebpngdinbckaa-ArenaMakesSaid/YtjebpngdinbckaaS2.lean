import Derived.Test.YtjebpngdinbckaaS

namespace Go.Proofs.Ytjebpngdinbckaa
open Go.Dk
attribute [local irreducible] IntKind.wrap

def halfI (n : Nat) (i : Int) (one : Bool) : Nat := if 0 ≤ i ∧ i < 8 then halfN n i.toNat one else 0
theorem ent49 : enters Try.prog 49 = true := by kernel_rfl
theorem c49_no (n : Nat) (i : Int) (one : Bool) (hi : i < 0 ∨ 8 ≤ i) (w : World) : Fun Try.prog 49 [sv n, .int .i64 i, .bool one] w fun v w' => v = sv 0 ∧ Same w w' := by
  refine fun_of_W (N := 36) Try.func49 ent49 rfl rfl rfl (by simp) ?_
  have H := Hp.start0 w
  refine H.box 24 (sv n) (cs := sc n) rfl ?_
  intro g1 w1 H
  refine H.alloc 24 (cs := sc 0) zero24 sc_zero ?_
  intro g2 w2 H
  refine H.alloc 24 (cs := sc 0) zero24 sc_zero ?_
  intro g3 w3 H
  refine cond_split (fun h => ?_) (fun h => ?_)
  · refine cond_yes h ?_
    refine cond_yes h ?_
    refine cond_yes rfl ?_
    refine H.loadAll 0 rfl agg24 size24 ?_
    refine H.storeAll 1 rfl size24 rfl (sc_one _) ?_
    intro w4 H
    refine H.loadAll 1 rfl agg24 size24 ?_
    exact ⟨rfl, rfl, H.keeps⟩
  · refine cond_no h ?_
    refine cond_no h ?_
    refine cond_yes (by simp at h ⊢; omega) ?_
    refine H.loadAll 0 rfl agg24 size24 ?_
    refine H.storeAll 1 rfl size24 rfl (sc_one _) ?_
    intro w4 H
    refine H.loadAll 1 rfl agg24 size24 ?_
    exact ⟨rfl, rfl, H.keeps⟩
theorem c49_yes (n i : Nat) (one : Bool) (hi : i < 8) (w : World) : Fun Try.prog 49 [sv n, .int .i64 (i : Int), .bool one] w fun v w' => v = sv (halfN n i one) ∧ Same w w' := by
  refine fun_of_W (N := 36) Try.func49 ent49 rfl rfl rfl (by simp) ?_
  have H := Hp.start0 w
  refine H.box 24 (sv n) (cs := sc n) rfl ?_
  intro g1 w1 H
  refine H.alloc 24 (cs := sc 0) zero24 sc_zero ?_
  intro g2 w2 H
  refine H.alloc 24 (cs := sc 0) zero24 sc_zero ?_
  intro g3 w3 H
  have hd : decide ((i : Int) < 0) = false := by simp
  refine cond_no hd ?_
  refine cond_no hd ?_
  refine cond_no hd ?_
  refine cond_no (by simp; omega) ?_
  refine H.loadAll 2 rfl agg24 size24 ?_
  refine call_fn (c41 n _) ?_
  rintro v w4 ⟨A, c, rfl, hn⟩
  have H := H.addNew hn
  refine len_sl Try.underlying32 ?_
  refine loop_rule (γ := Nat) _ rfl (fun j => [(20, .int .i64 (j : Int))])
    (fun j w' => j ≤ (pts n).length ∧ Hp w (fun _ => False) w' [own 3 1 (.slice A (pts n).length c) (pts n).length (ints (pts n)), blk g3 24 (sc (orAll (((pts n).take j).filter fun p => p.testBit i == one))), blk g2 24 (sc 0), blk g1 24 (sc n)] [])
    (fun j => (pts n).length - j) 0 ⟨rfl, trivial⟩ ⟨by omega, H⟩ ?_
  clear H hn
  rintro j u w5 ⟨hj, H⟩
  refine cond_split (fun h => ?_) (fun h => ?_)
  · have hjl : j < (pts n).length := by have := of_decide_eq_true h; omega
    obtain ⟨g, rfl⟩ := H.ownA 0 rfl (by omega)
    have hp : (pts n)[j] < 256 := (mem_bitsBelow.1 (List.getElem_mem hjl)).1
    have ht : (pts n).take (j + 1) = (pts n).take j ++ [(pts n)[j]] := (List.take_append_getElem hjl).symm
    refine idxAddr_sl Try.underlying32 size3 j rfl hjl (by omega) (o' := j) ?_
    refine H.loadOwn 0 rfl agg3 (ints_get hjl) ?_
    refine bin_shr_i64 (by omega) ?_
    refine bin_and_i64 (b := 1) (Nat.lt_of_le_of_lt (Nat.div_le_self _ _) (by omega)) (by omega) ?_
    refine bin_eql_bool Try.underlying4 ?_
    rw [testBit_and_one]
    refine cond_split (fun hb => ?_) (fun hb => ?_)
    · refine H.loadAll 1 rfl agg24 size24 ?_
      refine call_fn (c46_yes _ _ hp _) ?_
      rintro v w6 ⟨rfl, hk⟩
      have H := H.same hk
      refine H.storeAll 1 rfl size24 rfl (sc_one _) ?_
      intro w7 H
      refine ⟨j + 1, by omega, ⟨congrArg (Value.int .i64) (wrap_i64_in (by omega) (by have := bitsBelow_le n 256; simp only [pts] at hjl; omega)), trivial⟩, by omega, ?_⟩
      have e : ((pts n).take (j + 1)).filter (fun p => p.testBit i == one) = ((pts n).take j).filter (fun p => p.testBit i == one) ++ [(pts n)[j]] := by
        rw [ht, List.filter_append, List.filter_cons, hb, List.filter_nil]; rfl
      rw [e, orAll_snoc]
      exact H
    · refine ⟨j + 1, by omega, ⟨congrArg (Value.int .i64) (wrap_i64_in (by omega) (by have := bitsBelow_le n 256; simp only [pts] at hjl; omega)), trivial⟩, by omega, ?_⟩
      have e : ((pts n).take (j + 1)).filter (fun p => p.testBit i == one) = ((pts n).take j).filter (fun p => p.testBit i == one) := by
        rw [ht, List.filter_append, List.filter_cons, hb, List.filter_nil]; simp
      rw [e]
      exact H
  · have hjl : j = (pts n).length := by have := of_decide_eq_false h; omega
    subst hjl
    refine H.loadAll 1 rfl agg24 size24 ?_
    refine H.storeAll 2 rfl size24 rfl (sc_one _) ?_
    intro w6 H
    refine H.loadAll 2 rfl agg24 size24 ?_
    refine ⟨rfl, ?_, H.keeps⟩
    rw [List.take_length, ← halfN_eq]; rfl
theorem c49 (n : Nat) (i : Int) (one : Bool) (w : World) : Fun Try.prog 49 [sv n, .int .i64 i, .bool one] w fun v w' => v = sv (halfI n i one) ∧ Same w w' := by
  by_cases hi : 0 ≤ i ∧ i < 8
  · obtain ⟨q, rfl⟩ := Int.eq_ofNat_of_zero_le hi.1
    have := c49_yes n q one (by omega) w
    simpa [halfI, hi] using this
  · simpa [halfI, hi] using c49_no n i one (by omega) w

theorem ent37 : enters Try.prog 37 = true := by kernel_rfl
theorem c37_no (n : Int) (hn : n < 0 ∨ 8 < n) (w : World) : Fun Try.prog 37 [.int .i64 n] w fun v w' => v = .tuple #[sv 0, .int .i64 1] ∧ Same w w' := by
  refine fun_of_W (N := 23) Try.func37 ent37 rfl rfl rfl (by simp) ?_
  have H := Hp.start0 w
  refine H.alloc 24 (cs := sc 0) zero24 sc_zero ?_
  intro g1 w1 H
  refine cond_split (fun h => ?_) (fun h => ?_)
  · refine cond_yes h ?_
    refine cond_yes h ?_
    refine cond_yes rfl ?_
    refine build24 ?_
    refine H.storeAll 0 rfl size24 rfl (sc_one _) ?_
    intro w4 H
    refine H.loadAll 0 rfl agg24 size24 ?_
    exact ⟨rfl, rfl, H.keeps⟩
  · refine cond_no h ?_
    refine cond_no h ?_
    refine cond_yes (by simp at h ⊢; omega) ?_
    refine build24 ?_
    refine H.storeAll 0 rfl size24 rfl (sc_one _) ?_
    intro w4 H
    refine H.loadAll 0 rfl agg24 size24 ?_
    exact ⟨rfl, rfl, H.keeps⟩
theorem c37_yes (n : Nat) (hn : n ≤ 8) (w : World) : Fun Try.prog 37 [.int .i64 (n : Int)] w fun v w' => v = .tuple #[sv (allN n), .int .i64 0] ∧ Same w w' := by
  refine fun_of_W (N := 23) Try.func37 ent37 rfl rfl rfl (by simp) ?_
  have H := Hp.start0 w
  refine H.alloc 24 (cs := sc 0) zero24 sc_zero ?_
  intro g1 w1 H
  have hd : decide ((n : Int) < 0) = false := by simp
  refine cond_no hd ?_
  refine cond_no hd ?_
  refine cond_no hd ?_
  refine cond_no (by simp; omega) ?_
  refine H.alloc 24 (cs := sc 0) zero24 sc_zero ?_
  intro g2 w2 H
  have h2 : 2 ^ n ≤ 2 ^ 8 := Nat.pow_le_pow_right (by decide) hn
  refine bin_shl_i64 (x := 1) (n := n) (by omega) (by omega) ?_
  rw [Nat.one_mul]
  refine loop_rule (γ := Nat) _ rfl (fun j => [(15, .int .i64 (j : Int))])
    (fun j w' => j ≤ 2 ^ n ∧ Hp w (fun _ => False) w' [blk g2 24 (sc (orAll (List.range j))), blk g1 24 (sc 0)] [])
    (fun j => 2 ^ n - j) 0 ⟨rfl, trivial⟩ ⟨Nat.zero_le _, H⟩ ?_
  clear H
  rintro j u w5 ⟨hj, H⟩
  refine cond_split (fun h => ?_) (fun h => ?_)
  · have hjl : j < 2 ^ n := by have := of_decide_eq_true h; omega
    refine H.loadAll 0 rfl agg24 size24 ?_
    refine call_fn (c46_yes _ j (by omega) _) ?_
    rintro v w6 ⟨rfl, hk⟩
    have H := H.same hk
    refine H.storeAll 0 rfl size24 rfl (sc_one _) ?_
    intro w7 H
    refine ⟨j + 1, by omega, ⟨congrArg (Value.int .i64) (wrap_i64_in (by omega) (by omega)), trivial⟩, by omega, ?_⟩
    rw [List.range_succ, orAll_snoc]
    exact H
  · have hjl : j = 2 ^ n := by have := of_decide_eq_false h; omega
    subst hjl
    refine H.loadAll 0 rfl agg24 size24 ?_
    refine H.storeAll 1 rfl size24 rfl (sc_one _) ?_
    intro w6 H
    refine H.loadAll 1 rfl agg24 size24 ?_
    refine ⟨rfl, ?_, H.keeps⟩
    rw [allN_eq n hn]; rfl

import Derived.Test.YtjebpngdinbckaaS4
/- The references' own check, and plain laws of lists of answers. -/
namespace Go.Proofs.Ytjebpngdinbckaa
open Go.Dk
attribute [local irreducible] IntKind.wrap

theorem allN2 : allN 2 = 15 := by kernel_rfl
theorem half15 : halfN 15 0 true = 10 := by kernel_rfl
theorem pts10 : pts 10 = [1, 3] := by kernel_rfl
theorem popc15 : popc 15 = 4 := by simp [popc_step 15, popc_step 7, popc_step 3, popc_step 1, popc_zero]
theorem sv15 : Value.agg #[.int .u64 15, .int .u64 0, .int .u64 0, .int .u64 0] = sv 15 := by kernel_rfl
theorem svb : Value.agg #[.int .u64 0, .int .u64 1, .int .u64 0, .int .u64 0] = sv 18446744073709551616 := by kernel_rfl

theorem ent47 : enters Try.prog 47 = true := by kernel_rfl
theorem c47 (w : World) : Fun Try.prog 47 [] w fun v w' => v = .bool true ∧ Same w w' := by
  refine fun_of_W (N := 55) Try.func47 ent47 rfl rfl rfl (by simp) ?_
  have H := Hp.start0 w
  refine call_fn (c37_yes 2 (by omega) _) ?_
  rintro v w1 ⟨rfl, hk⟩
  have H := H.same hk
  rw [allN2]
  refine H.alloc 24 (cs := sc 0) zero24 sc_zero ?_
  intro g1 w2 H
  refine H.storeAll 0 rfl size24 rfl (sc_one _) ?_
  intro w3 H
  refine H.loadAll 0 rfl agg24 size24 ?_
  refine call_fn (c49_yes 15 0 true (by omega) _) ?_
  rintro v w4 ⟨rfl, hk⟩
  have H := H.same hk
  rw [half15]
  refine call_fn (c41 10 _) ?_
  rintro v w5 ⟨A, c, rfl, hn⟩
  rw [pts10] at hn ⊢
  have H := H.addNew hn
  obtain ⟨g, rfl⟩ := H.ownA 0 rfl (by decide)
  refine cond_yes rfl ?_
  refine H.loadAll 1 rfl agg24 size24 ?_
  refine cond_yes rfl ?_
  refine build_by (v := .agg #[.int .u64 15, .int .u64 0, .int .u64 0, .int .u64 0]) (fun w => by kernel_rfl) ?_
  rw [sv15]
  refine cond_yes rfl ?_
  refine bin_eql24 (by decide) (by decide) ?_
  rw [show ((15 : Nat) == 15) = true from rfl]
  repeat refine cond_yes rfl ?_
  refine len_sl Try.underlying32 ?_
  repeat refine cond_yes rfl ?_
  refine idxAddr_sl Try.underlying32 size3 0 rfl (by decide) (o' := 0) rfl ?_
  repeat refine cond_yes rfl ?_
  refine H.loadOwn 0 rfl agg3 (u := .int .i64 1) rfl ?_
  repeat refine cond_yes rfl ?_
  refine idxAddr_sl Try.underlying32 size3 1 rfl (by decide) (o' := 1) rfl ?_
  repeat refine cond_yes rfl ?_
  refine H.loadOwn 0 rfl agg3 (u := .int .i64 3) rfl ?_
  repeat refine cond_yes rfl ?_
  refine H.loadAll 1 rfl agg24 size24 ?_
  repeat refine cond_yes rfl ?_
  refine call_fn (c43 15 (by decide) _) ?_
  rintro v w6 ⟨rfl, hk⟩
  have H := H.same hk
  rw [popc15]
  repeat refine cond_yes rfl ?_
  refine H.loadAll 1 rfl agg24 size24 ?_
  repeat refine cond_yes rfl ?_
  refine call_fn (c44_yes 15 3 (by decide) _) ?_
  rintro v w7 ⟨rfl, hk⟩
  have H := H.same hk
  rw [show Nat.testBit 15 3 = true from rfl]
  repeat refine cond_yes rfl ?_
  refine H.loadAll 1 rfl agg24 size24 ?_
  repeat refine cond_yes rfl ?_
  refine call_fn (c44_yes 15 4 (by decide) _) ?_
  rintro v w8 ⟨rfl, hk⟩
  have H := H.same hk
  rw [show Nat.testBit 15 4 = false from rfl]
  repeat refine cond_yes rfl ?_
  refine build24 ?_
  repeat refine cond_yes rfl ?_
  refine call_fn (c46_yes 0 64 (by decide) _) ?_
  rintro v w9 ⟨rfl, hk⟩
  have H := H.same hk
  rw [show 0 ||| 2 ^ 64 = 18446744073709551616 from rfl]
  repeat refine cond_yes rfl ?_
  refine build_by (v := .agg #[.int .u64 0, .int .u64 1, .int .u64 0, .int .u64 0]) (fun w => by kernel_rfl) ?_
  rw [svb]
  repeat refine cond_yes rfl ?_
  refine bin_eql24 (by decide) (by decide) ?_
  rw [show ((18446744073709551616 : Nat) == 18446744073709551616) = true from rfl]
  repeat refine cond_yes rfl ?_
  exact ⟨rfl, H.keeps⟩

/-! ### SetPoints -/
theorem ent3 : enters Try.prog 3 = true := by kernel_rfl
theorem flags_set {n : Nat} (hn : n < 2 ^ 256) : ofFlags (flagsN n) = n := by
  refine set_ext (setOf_lt _) hn fun p hp => ?_
  rw [ofFlags, testBit_setOf]
  simp [hp, flagsTo]
theorem flags_all (n : Nat) : ofFlags (allFlags n) = allN n := by
  refine set_ext (setOf_lt _) (setOf_lt _) fun p hp => ?_
  rw [ofFlags, testBit_setOf, allN, testBit_setOf]
  simp [hp, allFlags]
theorem flags_with {n p : Nat} (hn : n < 2 ^ 256) (hp : p < 256) : ofFlags ((flagsN n).set p true) = n ||| 2 ^ p := by
  refine set_ext (setOf_lt _) (or_lt hn (Nat.pow_lt_pow_right (by decide) hp)) fun q hq => ?_
  rw [ofFlags, testBit_setOf, Nat.testBit_or, Nat.testBit_two_pow]
  have hlen : (flagsN n).length = 256 := flagsTo_length n 256
  rw [List.getD_eq_getElem?_getD, List.getElem?_set]
  by_cases h : p = q
  · subst h; simp [hq, hlen]
  · simp [h, hq, flagsTo]

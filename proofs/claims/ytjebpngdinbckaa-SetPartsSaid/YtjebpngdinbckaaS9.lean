import Derived.Test.YtjebpngdinbckaaS8
/- The statements of chapter 1: SetParts. -/
namespace Go.Proofs.Ytjebpngdinbckaa
open Go.Dk
attribute [local irreducible] IntKind.wrap

/-! ### SetParts -/
theorem testBit_halfN (n i : Nat) (one : Bool) (p : Nat) : (halfN n i one).testBit p = (decide (p < 256) && (n.testBit p && (p.testBit i == one))) := by
  rw [halfN, testBit_setOf]
theorem half_or {n i : Nat} (hn : n < 2 ^ 256) : halfN n i false ||| halfN n i true = n := by
  refine set_ext (or_lt (halfN_lt _ _ _) (halfN_lt _ _ _)) hn fun p hp => ?_
  rw [Nat.testBit_or, testBit_halfN, testBit_halfN]
  simp only [hp, decide_true, Bool.true_and]
  cases n.testBit p <;> cases p.testBit i <;> rfl
theorem half_and {n i : Nat} : halfN n i false &&& halfN n i true = 0 := by
  refine set_ext (Nat.lt_of_le_of_lt Nat.and_le_left (halfN_lt _ _ _)) (by decide) fun p hp => ?_
  rw [Nat.testBit_and, testBit_halfN, testBit_halfN, Nat.zero_testBit]
  cases n.testBit p <;> cases p.testBit i <;> simp
theorem or_less_less {a b : Nat} (ha : a < 2 ^ 256) (hb : b < 2 ^ 256) : lessN (a ||| lessN b a) (lessN b a) = a := by
  have h1 := lessN_lt b a
  refine set_ext (lessN_lt _ _) ha fun p hp => ?_
  rw [testBit_lessN (or_lt ha h1), Nat.testBit_or, testBit_lessN hb]
  cases a.testBit p <;> cases b.testBit p <;> rfl
theorem popc_add {a b : Nat} (ha : a < 2 ^ 256) (hb : b < 2 ^ 256) : popc (a ||| b) + popc (a &&& b) = popc a + popc b := by
  rw [← pts_length (or_lt ha hb), ← pts_length (Nat.lt_of_le_of_lt Nat.and_le_left ha), ← pts_length ha, ← pts_length hb]
  have key : ∀ l : List Nat, (l.filter fun p => (a ||| b).testBit p).length + (l.filter fun p => (a &&& b).testBit p).length = (l.filter fun p => a.testBit p).length + (l.filter fun p => b.testBit p).length := by
    intro l
    induction l with
    | nil => rfl
    | cons p l ih =>
      simp only [List.filter_cons, Nat.testBit_or, Nat.testBit_and] at ih ⊢
      cases a.testBit p <;> cases b.testBit p <;> simp <;> omega
  exact key _
theorem within_and {a b : Nat} (ha : a < 2 ^ 256) : (lessN (a &&& b) a == 0) = true := by
  rw [beq_iff_eq]
  refine set_ext (lessN_lt _ _) (by decide) fun p hp => ?_
  rw [testBit_lessN (Nat.lt_of_le_of_lt Nat.and_le_left ha), Nat.testBit_and, Nat.zero_testBit]
  cases a.testBit p <;> cases b.testBit p <;> rfl
theorem ent6 : enters Try.prog 6 = true := by kernel_rfl
theorem law6 (a : Nat) (ha : a < 2 ^ 256) (b : Nat) (hb : b < 2 ^ 256) (m : Nat) (hm : m < 256) (w : World) : Fun Try.prog 6 [sv a, sv b, .int .u8 (m : Int)] w fun v w' => v = .bool true ∧ Same w w' := by
  refine fun_of_W (N := 87) Try.func6 ent6 rfl rfl rfl (by simp) ?_
  have H := Hp.start0 w
  refine H.box 24 (sv a) (cs := sc a) rfl ?_
  intro g1 w1 H
  refine H.box 24 (sv b) (cs := sc b) rfl ?_
  intro g2 w2 H
  refine bin_rem (by decide) ?_
  refine conv_int (by kernel_rfl) Try.underlying3 ?_
  have hr : IntKind.i64.wrap ((m : Int).tmod 8) = ((m % 8 : Nat) : Int) := by
    rw [Int.tmod_eq_emod_of_nonneg (by omega), wrap_i64_in (by omega) (by omega)]; rfl
  rw [hr]
  have hr8 : m % 8 < 8 := Nat.mod_lt _ (by decide)
  have hlo := halfN_lt a (m % 8) false
  have hhi := halfN_lt a (m % 8) true
  refine cut_rule (γ := Nat × Nat) _ rfl (fun (x, y) => [(8, .pointer (some ⟨x, 0, none⟩)), (9, .pointer (some ⟨y, 0, none⟩))])
    (fun (x, y) w' => Hp w (fun _ => False) w' [blk y 24 (sc (halfN a (m % 8) true)), blk x 24 (sc (halfN a (m % 8) false)), blk g2 24 (sc b), blk g1 24 (sc a)] []) ?_ ?_
  · refine draw_orders (fun w' => Hp w (fun _ => False) w' [blk g2 24 (sc b), blk g1 24 (sc a)] [])
      [([2, 5, 6, 7, 8, 9], [0, 1, 3, 4, 2, 5, 6, 7, 8, 9]), ([2, 5, 7, 6, 8, 9], [0, 1, 3, 4, 2, 5, 7, 6, 8, 9]), ([2, 6, 5, 7, 8, 9], [0, 1, 3, 4, 2, 6, 5, 7, 8, 9]), ([2, 6, 7, 5, 8, 9], [0, 1, 3, 4, 2, 6, 7, 5, 8, 9]), ([2, 7, 5, 6, 8, 9], [0, 1, 3, 4, 2, 7, 5, 6, 8, 9]), ([2, 7, 6, 5, 8, 9], [0, 1, 3, 4, 2, 7, 6, 5, 8, 9]), ([6, 2, 5, 7, 8, 9], [0, 1, 3, 4, 6, 2, 5, 7, 8, 9]), ([6, 2, 7, 5, 8, 9], [0, 1, 3, 4, 6, 2, 7, 5, 8, 9]), ([6, 7, 2, 5, 8, 9], [0, 1, 3, 4, 6, 7, 2, 5, 8, 9]), ([7, 2, 5, 6, 8, 9], [0, 1, 3, 4, 7, 2, 5, 6, 8, 9]), ([7, 2, 6, 5, 8, 9], [0, 1, 3, 4, 7, 2, 6, 5, 8, 9]), ([7, 6, 2, 5, 8, 9], [0, 1, 3, 4, 7, 6, 2, 5, 8, 9])] fol (by kernel_rfl) (H.same (Keeps.drew _)) ?_
    have H := (H.same (Keeps.drew _))
    intro x hx
    simp only [List.mem_cons, List.not_mem_nil, or_false] at hx
    rcases hx with rfl | rfl | rfl | rfl | rfl | rfl | rfl | rfl | rfl | rfl | rfl | rfl
    · refine quiet (sv a) (fun w H => H.loadAll 1 rfl agg24 size24 ⟨rfl, rfl⟩) ?_
      refine quiet (sv a) (fun w H => H.loadAll 1 rfl agg24 size24 ⟨rfl, rfl⟩) ?_
      refine call_fn (c49_yes a (m % 8) false hr8 _) ?_
      rintro v w3 ⟨rfl, hk⟩
      have H := H.same hk
      refine ⟨.inl H, ?_⟩
      refine call_fn (c49_yes a (m % 8) true hr8 _) ?_
      rintro v w3 ⟨rfl, hk⟩
      have H := H.same hk
      refine ⟨.inl H, ?_⟩
      refine H.alloc 24 (cs := sc 0) zero24 sc_zero ?_
      intro x w4 H
      refine ⟨.inl H.forget, ?_⟩
      refine H.alloc 24 (cs := sc 0) zero24 sc_zero ?_
      intro y w4 H
      refine ⟨.inl H.forget.forget, ?_⟩
      refine H.storeAll 1 rfl size24 rfl (sc_one _) ?_
      intro w5 H
      refine ⟨.inl H.forget.forget, ?_⟩
      refine H.storeAll 0 rfl size24 rfl (sc_one _) ?_
      intro w6 H
      refine ⟨.inl H.forget.forget, ?_⟩
      exact ⟨(x, y), ⟨rfl, rfl, trivial⟩, ((H.front 1 rfl).front 1 rfl)⟩
    · refine quiet (sv a) (fun w H => H.loadAll 1 rfl agg24 size24 ⟨rfl, rfl⟩) ?_
      refine quiet (sv a) (fun w H => H.loadAll 1 rfl agg24 size24 ⟨rfl, rfl⟩) ?_
      refine call_fn (c49_yes a (m % 8) false hr8 _) ?_
      rintro v w3 ⟨rfl, hk⟩
      have H := H.same hk
      refine ⟨.inl H, ?_⟩
      refine call_fn (c49_yes a (m % 8) true hr8 _) ?_
      rintro v w3 ⟨rfl, hk⟩
      have H := H.same hk
      refine ⟨.inl H, ?_⟩
      refine H.alloc 24 (cs := sc 0) zero24 sc_zero ?_
      intro y w4 H
      refine ⟨.inl H.forget, ?_⟩
      refine H.alloc 24 (cs := sc 0) zero24 sc_zero ?_
      intro x w4 H
      refine ⟨.inl H.forget.forget, ?_⟩
      refine H.storeAll 0 rfl size24 rfl (sc_one _) ?_
      intro w5 H
      refine ⟨.inl H.forget.forget, ?_⟩
      refine H.storeAll 1 rfl size24 rfl (sc_one _) ?_
      intro w6 H
      refine ⟨.inl H.forget.forget, ?_⟩
      exact ⟨(x, y), ⟨rfl, rfl, trivial⟩, ((H.front 0 rfl).front 1 rfl)⟩
    · refine quiet (sv a) (fun w H => H.loadAll 1 rfl agg24 size24 ⟨rfl, rfl⟩) ?_
      refine quiet (sv a) (fun w H => H.loadAll 1 rfl agg24 size24 ⟨rfl, rfl⟩) ?_
      refine call_fn (c49_yes a (m % 8) false hr8 _) ?_
      rintro v w3 ⟨rfl, hk⟩
      have H := H.same hk
      refine ⟨.inl H, ?_⟩
      refine H.alloc 24 (cs := sc 0) zero24 sc_zero ?_
      intro x w4 H
      refine ⟨.inl H.forget, ?_⟩
      refine call_fn (c49_yes a (m % 8) true hr8 _) ?_
      rintro v w3 ⟨rfl, hk⟩
      have H := H.same hk
      refine ⟨.inl H.forget, ?_⟩
      refine H.alloc 24 (cs := sc 0) zero24 sc_zero ?_
      intro y w4 H
      refine ⟨.inl H.forget.forget, ?_⟩
      refine H.storeAll 1 rfl size24 rfl (sc_one _) ?_
      intro w5 H
      refine ⟨.inl H.forget.forget, ?_⟩
      refine H.storeAll 0 rfl size24 rfl (sc_one _) ?_
      intro w6 H
      refine ⟨.inl H.forget.forget, ?_⟩
      exact ⟨(x, y), ⟨rfl, rfl, trivial⟩, ((H.front 1 rfl).front 1 rfl)⟩
    · refine quiet (sv a) (fun w H => H.loadAll 1 rfl agg24 size24 ⟨rfl, rfl⟩) ?_
      refine quiet (sv a) (fun w H => H.loadAll 1 rfl agg24 size24 ⟨rfl, rfl⟩) ?_
      refine call_fn (c49_yes a (m % 8) false hr8 _) ?_
      rintro v w3 ⟨rfl, hk⟩
      have H := H.same hk
      refine ⟨.inl H, ?_⟩
      refine H.alloc 24 (cs := sc 0) zero24 sc_zero ?_
      intro x w4 H
      refine ⟨.inl H.forget, ?_⟩
      refine H.alloc 24 (cs := sc 0) zero24 sc_zero ?_
      intro y w4 H
      refine ⟨.inl H.forget.forget, ?_⟩
      refine call_fn (c49_yes a (m % 8) true hr8 _) ?_
      rintro v w3 ⟨rfl, hk⟩
      have H := H.same hk
      refine ⟨.inl H.forget.forget, ?_⟩
      refine H.storeAll 1 rfl size24 rfl (sc_one _) ?_
      intro w5 H
      refine ⟨.inl H.forget.forget, ?_⟩
      refine H.storeAll 0 rfl size24 rfl (sc_one _) ?_
      intro w6 H
      refine ⟨.inl H.forget.forget, ?_⟩
      exact ⟨(x, y), ⟨rfl, rfl, trivial⟩, ((H.front 1 rfl).front 1 rfl)⟩
    · refine quiet (sv a) (fun w H => H.loadAll 1 rfl agg24 size24 ⟨rfl, rfl⟩) ?_
      refine quiet (sv a) (fun w H => H.loadAll 1 rfl agg24 size24 ⟨rfl, rfl⟩) ?_
      refine call_fn (c49_yes a (m % 8) false hr8 _) ?_
      rintro v w3 ⟨rfl, hk⟩
      have H := H.same hk
      refine ⟨.inl H, ?_⟩
      refine H.alloc 24 (cs := sc 0) zero24 sc_zero ?_
      intro y w4 H
      refine ⟨.inl H.forget, ?_⟩
      refine call_fn (c49_yes a (m % 8) true hr8 _) ?_
      rintro v w3 ⟨rfl, hk⟩
      have H := H.same hk
      refine ⟨.inl H.forget, ?_⟩
      refine H.alloc 24 (cs := sc 0) zero24 sc_zero ?_
      intro x w4 H
      refine ⟨.inl H.forget.forget, ?_⟩
      refine H.storeAll 0 rfl size24 rfl (sc_one _) ?_
      intro w5 H
      refine ⟨.inl H.forget.forget, ?_⟩
      refine H.storeAll 1 rfl size24 rfl (sc_one _) ?_
      intro w6 H
      refine ⟨.inl H.forget.forget, ?_⟩
      exact ⟨(x, y), ⟨rfl, rfl, trivial⟩, ((H.front 0 rfl).front 1 rfl)⟩
    · refine quiet (sv a) (fun w H => H.loadAll 1 rfl agg24 size24 ⟨rfl, rfl⟩) ?_
      refine quiet (sv a) (fun w H => H.loadAll 1 rfl agg24 size24 ⟨rfl, rfl⟩) ?_
      refine call_fn (c49_yes a (m % 8) false hr8 _) ?_
      rintro v w3 ⟨rfl, hk⟩
      have H := H.same hk
      refine ⟨.inl H, ?_⟩
      refine H.alloc 24 (cs := sc 0) zero24 sc_zero ?_
      intro y w4 H
      refine ⟨.inl H.forget, ?_⟩
      refine H.alloc 24 (cs := sc 0) zero24 sc_zero ?_
      intro x w4 H
      refine ⟨.inl H.forget.forget, ?_⟩
      refine call_fn (c49_yes a (m % 8) true hr8 _) ?_
      rintro v w3 ⟨rfl, hk⟩
      have H := H.same hk
      refine ⟨.inl H.forget.forget, ?_⟩
      refine H.storeAll 0 rfl size24 rfl (sc_one _) ?_
      intro w5 H
      refine ⟨.inl H.forget.forget, ?_⟩
      refine H.storeAll 1 rfl size24 rfl (sc_one _) ?_
      intro w6 H
      refine ⟨.inl H.forget.forget, ?_⟩
      exact ⟨(x, y), ⟨rfl, rfl, trivial⟩, ((H.front 0 rfl).front 1 rfl)⟩
    · refine quiet (sv a) (fun w H => H.loadAll 1 rfl agg24 size24 ⟨rfl, rfl⟩) ?_
      refine quiet (sv a) (fun w H => H.loadAll 1 rfl agg24 size24 ⟨rfl, rfl⟩) ?_
      refine H.alloc 24 (cs := sc 0) zero24 sc_zero ?_
      intro x w4 H
      refine ⟨.inl H.forget, ?_⟩
      refine call_fn (c49_yes a (m % 8) false hr8 _) ?_
      rintro v w3 ⟨rfl, hk⟩
      have H := H.same hk
      refine ⟨.inl H.forget, ?_⟩
      refine call_fn (c49_yes a (m % 8) true hr8 _) ?_
      rintro v w3 ⟨rfl, hk⟩
      have H := H.same hk
      refine ⟨.inl H.forget, ?_⟩
      refine H.alloc 24 (cs := sc 0) zero24 sc_zero ?_
      intro y w4 H
      refine ⟨.inl H.forget.forget, ?_⟩
      refine H.storeAll 1 rfl size24 rfl (sc_one _) ?_
      intro w5 H
      refine ⟨.inl H.forget.forget, ?_⟩
      refine H.storeAll 0 rfl size24 rfl (sc_one _) ?_
      intro w6 H
      refine ⟨.inl H.forget.forget, ?_⟩
      exact ⟨(x, y), ⟨rfl, rfl, trivial⟩, ((H.front 1 rfl).front 1 rfl)⟩
    · refine quiet (sv a) (fun w H => H.loadAll 1 rfl agg24 size24 ⟨rfl, rfl⟩) ?_
      refine quiet (sv a) (fun w H => H.loadAll 1 rfl agg24 size24 ⟨rfl, rfl⟩) ?_
      refine H.alloc 24 (cs := sc 0) zero24 sc_zero ?_
      intro x w4 H
      refine ⟨.inl H.forget, ?_⟩
      refine call_fn (c49_yes a (m % 8) false hr8 _) ?_
      rintro v w3 ⟨rfl, hk⟩
      have H := H.same hk
      refine ⟨.inl H.forget, ?_⟩
      refine H.alloc 24 (cs := sc 0) zero24 sc_zero ?_
      intro y w4 H
      refine ⟨.inl H.forget.forget, ?_⟩
      refine call_fn (c49_yes a (m % 8) true hr8 _) ?_
      rintro v w3 ⟨rfl, hk⟩
      have H := H.same hk
      refine ⟨.inl H.forget.forget, ?_⟩
      refine H.storeAll 1 rfl size24 rfl (sc_one _) ?_
      intro w5 H
      refine ⟨.inl H.forget.forget, ?_⟩
      refine H.storeAll 0 rfl size24 rfl (sc_one _) ?_
      intro w6 H
      refine ⟨.inl H.forget.forget, ?_⟩
      exact ⟨(x, y), ⟨rfl, rfl, trivial⟩, ((H.front 1 rfl).front 1 rfl)⟩
    · refine quiet (sv a) (fun w H => H.loadAll 1 rfl agg24 size24 ⟨rfl, rfl⟩) ?_
      refine quiet (sv a) (fun w H => H.loadAll 1 rfl agg24 size24 ⟨rfl, rfl⟩) ?_
      refine H.alloc 24 (cs := sc 0) zero24 sc_zero ?_
      intro x w4 H
      refine ⟨.inl H.forget, ?_⟩
      refine H.alloc 24 (cs := sc 0) zero24 sc_zero ?_
      intro y w4 H
      refine ⟨.inl H.forget.forget, ?_⟩
      refine call_fn (c49_yes a (m % 8) false hr8 _) ?_
      rintro v w3 ⟨rfl, hk⟩
      have H := H.same hk
      refine ⟨.inl H.forget.forget, ?_⟩
      refine call_fn (c49_yes a (m % 8) true hr8 _) ?_
      rintro v w3 ⟨rfl, hk⟩
      have H := H.same hk
      refine ⟨.inl H.forget.forget, ?_⟩
      refine H.storeAll 1 rfl size24 rfl (sc_one _) ?_
      intro w5 H
      refine ⟨.inl H.forget.forget, ?_⟩
      refine H.storeAll 0 rfl size24 rfl (sc_one _) ?_
      intro w6 H
      refine ⟨.inl H.forget.forget, ?_⟩
      exact ⟨(x, y), ⟨rfl, rfl, trivial⟩, ((H.front 1 rfl).front 1 rfl)⟩
    · refine quiet (sv a) (fun w H => H.loadAll 1 rfl agg24 size24 ⟨rfl, rfl⟩) ?_
      refine quiet (sv a) (fun w H => H.loadAll 1 rfl agg24 size24 ⟨rfl, rfl⟩) ?_
      refine H.alloc 24 (cs := sc 0) zero24 sc_zero ?_
      intro y w4 H
      refine ⟨.inl H.forget, ?_⟩
      refine call_fn (c49_yes a (m % 8) false hr8 _) ?_
      rintro v w3 ⟨rfl, hk⟩
      have H := H.same hk
      refine ⟨.inl H.forget, ?_⟩
      refine call_fn (c49_yes a (m % 8) true hr8 _) ?_
      rintro v w3 ⟨rfl, hk⟩
      have H := H.same hk
      refine ⟨.inl H.forget, ?_⟩
      refine H.alloc 24 (cs := sc 0) zero24 sc_zero ?_
      intro x w4 H
      refine ⟨.inl H.forget.forget, ?_⟩
      refine H.storeAll 0 rfl size24 rfl (sc_one _) ?_
      intro w5 H
      refine ⟨.inl H.forget.forget, ?_⟩
      refine H.storeAll 1 rfl size24 rfl (sc_one _) ?_
      intro w6 H
      refine ⟨.inl H.forget.forget, ?_⟩
      exact ⟨(x, y), ⟨rfl, rfl, trivial⟩, ((H.front 0 rfl).front 1 rfl)⟩
    · refine quiet (sv a) (fun w H => H.loadAll 1 rfl agg24 size24 ⟨rfl, rfl⟩) ?_
      refine quiet (sv a) (fun w H => H.loadAll 1 rfl agg24 size24 ⟨rfl, rfl⟩) ?_
      refine H.alloc 24 (cs := sc 0) zero24 sc_zero ?_
      intro y w4 H
      refine ⟨.inl H.forget, ?_⟩
      refine call_fn (c49_yes a (m % 8) false hr8 _) ?_
      rintro v w3 ⟨rfl, hk⟩
      have H := H.same hk
      refine ⟨.inl H.forget, ?_⟩
      refine H.alloc 24 (cs := sc 0) zero24 sc_zero ?_
      intro x w4 H
      refine ⟨.inl H.forget.forget, ?_⟩
      refine call_fn (c49_yes a (m % 8) true hr8 _) ?_
      rintro v w3 ⟨rfl, hk⟩
      have H := H.same hk
      refine ⟨.inl H.forget.forget, ?_⟩
      refine H.storeAll 0 rfl size24 rfl (sc_one _) ?_
      intro w5 H
      refine ⟨.inl H.forget.forget, ?_⟩
      refine H.storeAll 1 rfl size24 rfl (sc_one _) ?_
      intro w6 H
      refine ⟨.inl H.forget.forget, ?_⟩
      exact ⟨(x, y), ⟨rfl, rfl, trivial⟩, ((H.front 0 rfl).front 1 rfl)⟩
    · refine quiet (sv a) (fun w H => H.loadAll 1 rfl agg24 size24 ⟨rfl, rfl⟩) ?_
      refine quiet (sv a) (fun w H => H.loadAll 1 rfl agg24 size24 ⟨rfl, rfl⟩) ?_
      refine H.alloc 24 (cs := sc 0) zero24 sc_zero ?_
      intro y w4 H
      refine ⟨.inl H.forget, ?_⟩
      refine H.alloc 24 (cs := sc 0) zero24 sc_zero ?_
      intro x w4 H
      refine ⟨.inl H.forget.forget, ?_⟩
      refine call_fn (c49_yes a (m % 8) false hr8 _) ?_
      rintro v w3 ⟨rfl, hk⟩
      have H := H.same hk
      refine ⟨.inl H.forget.forget, ?_⟩
      refine call_fn (c49_yes a (m % 8) true hr8 _) ?_
      rintro v w3 ⟨rfl, hk⟩
      have H := H.same hk
      refine ⟨.inl H.forget.forget, ?_⟩
      refine H.storeAll 0 rfl size24 rfl (sc_one _) ?_
      intro w5 H
      refine ⟨.inl H.forget.forget, ?_⟩
      refine H.storeAll 1 rfl size24 rfl (sc_one _) ?_
      intro w6 H
      refine ⟨.inl H.forget.forget, ?_⟩
      exact ⟨(x, y), ⟨rfl, rfl, trivial⟩, ((H.front 0 rfl).front 1 rfl)⟩
  · clear H
    rintro ⟨x, y⟩ u w5 H
    dsimp only at H
    refine draw_mix (fun w' => Hp w (fun _ => False) w' [blk y 24 (sc (halfN a (m % 8) true)), blk x 24 (sc (halfN a (m % 8) false)), blk g2 24 (sc b), blk g1 24 (sc a)] []) fol (by kernel_rfl) (H.same (Keeps.drew _)) ?_
    have H := (H.same (Keeps.drew _))
    have hor := or_lt ha hb
    have hand : a &&& b < 2 ^ 256 := Nat.lt_of_le_of_lt Nat.and_le_left ha
    have hless := lessN_lt b a
    refine quiet (sv (halfN a (m % 8) false)) (fun w H => H.loadAll 1 rfl agg24 size24 ⟨rfl, rfl⟩) ?_
    refine quiet (sv (halfN a (m % 8) true)) (fun w H => H.loadAll 0 rfl agg24 size24 ⟨rfl, rfl⟩) ?_
    refine call_fn (c50 (halfN a (m % 8) false) (halfN a (m % 8) true) _) ?_
    rintro v w6 ⟨rfl, hk⟩
    have H := H.same hk
    refine ⟨.inl H, ?_⟩
    refine quiet (sv a) (fun w H => H.loadAll 3 rfl agg24 size24 ⟨rfl, rfl⟩) ?_
    rw [half_or ha]
    refine quiet (.bool (a != a)) (fun w _ => bin_neq24 ha ha ⟨rfl, rfl⟩) ?_
    repeat refine cond_no (bne_self_eq_false _) ?_
    refine quiet (sv (halfN a (m % 8) false)) (fun w H => H.loadAll 1 rfl agg24 size24 ⟨rfl, rfl⟩) ?_
    repeat refine cond_no (bne_self_eq_false _) ?_
    refine quiet (sv (halfN a (m % 8) true)) (fun w H => H.loadAll 0 rfl agg24 size24 ⟨rfl, rfl⟩) ?_
    repeat refine cond_no (bne_self_eq_false _) ?_
    refine call_fn (c51 (halfN a (m % 8) false) (halfN a (m % 8) true) _) ?_
    rintro v w7 ⟨rfl, hk⟩
    have H := H.same hk
    refine ⟨.inl H, ?_⟩
    repeat refine cond_no (bne_self_eq_false _) ?_
    refine quiet (sv 0) (fun w _ => build24 ⟨rfl, rfl⟩) ?_
    repeat refine cond_no (bne_self_eq_false _) ?_
    rw [half_and]
    refine quiet (.bool ((0 : Nat) != (0 : Nat))) (fun w _ => bin_neq24 (by decide) (by decide) ⟨rfl, rfl⟩) ?_
    repeat refine cond_no (bne_self_eq_false _) ?_
    refine quiet (sv a) (fun w H => H.loadAll 3 rfl agg24 size24 ⟨rfl, rfl⟩) ?_
    repeat refine cond_no (bne_self_eq_false _) ?_
    refine quiet (sv b) (fun w H => H.loadAll 2 rfl agg24 size24 ⟨rfl, rfl⟩) ?_
    repeat refine cond_no (bne_self_eq_false _) ?_
    refine call_fn (c50 a b _) ?_
    rintro v w8 ⟨rfl, hk⟩
    have H := H.same hk
    refine ⟨.inl H, ?_⟩
    repeat refine cond_no (bne_self_eq_false _) ?_
    refine quiet (sv b) (fun w H => H.loadAll 2 rfl agg24 size24 ⟨rfl, rfl⟩) ?_
    repeat refine cond_no (bne_self_eq_false _) ?_
    refine quiet (sv a) (fun w H => H.loadAll 3 rfl agg24 size24 ⟨rfl, rfl⟩) ?_
    repeat refine cond_no (bne_self_eq_false _) ?_
    refine call_fn (c50 b a _) ?_
    rintro v w9 ⟨rfl, hk⟩
    have H := H.same hk
    refine ⟨.inl H, ?_⟩
    repeat refine cond_no (bne_self_eq_false _) ?_
    rw [Nat.or_comm b a]
    refine quiet (.bool ((a ||| b) != (a ||| b))) (fun w _ => bin_neq24 hor hor ⟨rfl, rfl⟩) ?_
    repeat refine cond_no (bne_self_eq_false _) ?_
    refine quiet (sv a) (fun w H => H.loadAll 3 rfl agg24 size24 ⟨rfl, rfl⟩) ?_
    repeat refine cond_no (bne_self_eq_false _) ?_
    refine quiet (sv b) (fun w H => H.loadAll 2 rfl agg24 size24 ⟨rfl, rfl⟩) ?_
    repeat refine cond_no (bne_self_eq_false _) ?_
    refine call_fn (c51 a b _) ?_
    rintro v w10 ⟨rfl, hk⟩
    have H := H.same hk
    refine ⟨.inl H, ?_⟩
    repeat refine cond_no (bne_self_eq_false _) ?_
    refine quiet (sv b) (fun w H => H.loadAll 2 rfl agg24 size24 ⟨rfl, rfl⟩) ?_
    repeat refine cond_no (bne_self_eq_false _) ?_
    refine quiet (sv a) (fun w H => H.loadAll 3 rfl agg24 size24 ⟨rfl, rfl⟩) ?_
    repeat refine cond_no (bne_self_eq_false _) ?_
    refine call_fn (c51 b a _) ?_
    rintro v w11 ⟨rfl, hk⟩
    have H := H.same hk
    refine ⟨.inl H, ?_⟩
    repeat refine cond_no (bne_self_eq_false _) ?_
    rw [Nat.and_comm b a]
    refine quiet (.bool ((a &&& b) != (a &&& b))) (fun w _ => bin_neq24 hand hand ⟨rfl, rfl⟩) ?_
    repeat refine cond_no (bne_self_eq_false _) ?_
    refine H.loadAll 2 rfl agg24 size24 ?_
    refine H.loadAll 3 rfl agg24 size24 ?_
    refine call_fn (c52 b a hb _) ?_
    rintro v w12 ⟨rfl, hk⟩
    have H := H.same hk
    refine H.alloc 24 (cs := sc 0) zero24 sc_zero ?_
    intro z w13 H
    refine H.storeAll 0 rfl size24 rfl (sc_one _) ?_
    intro w14 H
    refine draw_mix (fun w' => Hp w (fun _ => False) w' [blk z 24 (sc (lessN b a)), blk y 24 (sc (halfN a (m % 8) true)), blk x 24 (sc (halfN a (m % 8) false)), blk g2 24 (sc b), blk g1 24 (sc a)] []) fol (by kernel_rfl) (H.same (Keeps.drew _)) ?_
    have H : Hp w (fun _ => False) _ [blk z 24 (sc (lessN b a)), blk y 24 (sc (halfN a (m % 8) true)), blk x 24 (sc (halfN a (m % 8) false)), blk g2 24 (sc b), blk g1 24 (sc a)] [] := (H.same (Keeps.drew _))
    have hal := or_lt ha hless
    refine quiet (sv a) (fun w H => H.loadAll 4 rfl agg24 size24 ⟨rfl, rfl⟩) ?_
    refine quiet (sv (lessN b a)) (fun w H => H.loadAll 0 rfl agg24 size24 ⟨rfl, rfl⟩) ?_
    refine call_fn (c50 a (lessN b a) _) ?_
    rintro v w15 ⟨rfl, hk⟩
    have H := H.same hk
    refine ⟨.inl H, ?_⟩
    refine quiet (sv (lessN b a)) (fun w H => H.loadAll 0 rfl agg24 size24 ⟨rfl, rfl⟩) ?_
    refine call_fn (c52 (a ||| lessN b a) (lessN b a) hal _) ?_
    rintro v w16 ⟨rfl, hk⟩
    have H := H.same hk
    refine ⟨.inl H, ?_⟩
    refine quiet (sv a) (fun w H => H.loadAll 4 rfl agg24 size24 ⟨rfl, rfl⟩) ?_
    rw [or_less_less ha hb]
    refine quiet (.bool (a == a)) (fun w _ => bin_eql24 ha ha ⟨rfl, rfl⟩) ?_
    repeat refine cond_yes (beq_self_eq_true _) ?_
    refine quiet (sv a) (fun w H => H.loadAll 4 rfl agg24 size24 ⟨rfl, rfl⟩) ?_
    repeat refine cond_yes (beq_self_eq_true _) ?_
    refine quiet (sv b) (fun w H => H.loadAll 3 rfl agg24 size24 ⟨rfl, rfl⟩) ?_
    repeat refine cond_yes (beq_self_eq_true _) ?_
    refine call_fn (c50 a b _) ?_
    rintro v w17 ⟨rfl, hk⟩
    have H := H.same hk
    refine ⟨.inl H, ?_⟩
    repeat refine cond_yes (beq_self_eq_true _) ?_
    refine call_fn (c43 (a ||| b) hor _) ?_
    rintro v w18 ⟨rfl, hk⟩
    have H := H.same hk
    refine ⟨.inl H, ?_⟩
    repeat refine cond_yes (beq_self_eq_true _) ?_
    refine quiet (sv a) (fun w H => H.loadAll 4 rfl agg24 size24 ⟨rfl, rfl⟩) ?_
    repeat refine cond_yes (beq_self_eq_true _) ?_
    refine quiet (sv b) (fun w H => H.loadAll 3 rfl agg24 size24 ⟨rfl, rfl⟩) ?_
    repeat refine cond_yes (beq_self_eq_true _) ?_
    refine call_fn (c51 a b _) ?_
    rintro v w19 ⟨rfl, hk⟩
    have H := H.same hk
    refine ⟨.inl H, ?_⟩
    repeat refine cond_yes (beq_self_eq_true _) ?_
    refine call_fn (c43 (a &&& b) hand _) ?_
    rintro v w20 ⟨rfl, hk⟩
    have H := H.same hk
    refine ⟨.inl H, ?_⟩
    repeat refine cond_yes (beq_self_eq_true _) ?_
    refine quiet (sv a) (fun w H => H.loadAll 4 rfl agg24 size24 ⟨rfl, rfl⟩) ?_
    repeat refine cond_yes (beq_self_eq_true _) ?_
    refine call_fn (c43 a ha _) ?_
    rintro v w21 ⟨rfl, hk⟩
    have H := H.same hk
    refine ⟨.inl H, ?_⟩
    repeat refine cond_yes (beq_self_eq_true _) ?_
    refine quiet (sv b) (fun w H => H.loadAll 3 rfl agg24 size24 ⟨rfl, rfl⟩) ?_
    repeat refine cond_yes (beq_self_eq_true _) ?_
    refine call_fn (c43 b hb _) ?_
    rintro v w22 ⟨rfl, hk⟩
    have H := H.same hk
    refine ⟨.inl H, ?_⟩
    repeat refine cond_yes (beq_self_eq_true _) ?_
    have hsum : ((popc (a ||| b) : Nat) : Int) + ((popc (a &&& b) : Nat) : Int) = ((popc a : Nat) : Int) + ((popc b : Nat) : Int) := by have := popc_add ha hb; omega
    rw [hsum]
    repeat refine cond_yes (beq_self_eq_true _) ?_
    refine quiet (sv a) (fun w H => H.loadAll 4 rfl agg24 size24 ⟨rfl, rfl⟩) ?_
    repeat refine cond_yes (beq_self_eq_true _) ?_
    refine quiet (sv b) (fun w H => H.loadAll 3 rfl agg24 size24 ⟨rfl, rfl⟩) ?_
    repeat refine cond_yes (beq_self_eq_true _) ?_
    refine call_fn (c51 a b _) ?_
    rintro v w23 ⟨rfl, hk⟩
    have H := H.same hk
    refine ⟨.inl H, ?_⟩
    repeat refine cond_yes (beq_self_eq_true _) ?_
    refine quiet (sv a) (fun w H => H.loadAll 4 rfl agg24 size24 ⟨rfl, rfl⟩) ?_
    repeat refine cond_yes (beq_self_eq_true _) ?_
    refine call_fn (c53 (a &&& b) a hand _) ?_
    rintro v w24 ⟨rfl, hk⟩
    have H := H.same hk
    refine ⟨.inl H, ?_⟩
    repeat refine cond_yes (beq_self_eq_true _) ?_
    repeat refine cond_yes (within_and ha) ?_
    refine call_fn (c47 _) ?_
    rintro v w25 ⟨rfl, hk⟩
    have H := H.same hk
    refine ⟨.inl H, ?_⟩
    repeat refine cond_yes (within_and ha) ?_
    repeat refine cond_yes (beq_self_eq_true _) ?_
    exact ⟨rfl, H.keeps⟩

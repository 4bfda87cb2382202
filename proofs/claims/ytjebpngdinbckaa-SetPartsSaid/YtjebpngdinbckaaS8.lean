import Derived.Test.YtjebpngdinbckaaS7
import Derived.Test.YtjebpngdinbckaaO
/- The statements of chapter 1: SetBoth. -/
namespace Go.Proofs.Ytjebpngdinbckaa
open Go.Dk
attribute [local irreducible] IntKind.wrap

/-! ### SetBoth -/
/-- The flags of a property, below k. -/
def partF (f : Nat → Bool) (k : Nat) : List Bool := (List.range 256).map fun p => decide (p < k) && f p
theorem partF_zero (f : Nat → Bool) : partF f 0 = List.replicate 256 false := by
  unfold partF
  refine List.ext_getElem? fun p => ?_
  by_cases hp : p < 256
  · rw [List.getElem?_map, List.getElem?_range hp, List.getElem?_replicate, if_pos hp]
    exact congrArg some (by show (decide (p < 0) && f p) = false; rw [decide_eq_false (by omega)]; rfl)
  · rw [List.getElem?_eq_none (by rw [List.length_map, List.length_range]; omega), List.getElem?_eq_none (by rw [List.length_replicate]; omega)]
theorem partF_length (f : Nat → Bool) (k : Nat) : (partF f k).length = 256 := by simp [partF]
theorem partF_set (f : Nat → Bool) {k : Nat} (hk : k < 256) : (bls (partF f k)).set k (.bool (f k)) = bls (partF f (k + 1)) := by
  rw [bls, bls, ← List.map_set]
  congr 1
  refine List.ext_getElem? fun p => ?_
  rw [List.getElem?_set, partF_length]
  by_cases h : k = p
  · subst h; simp [hk, partF]
  · simp only [h, if_false, partF, List.getElem?_map]
    by_cases hp : p < 256
    · simp [hp]
      have : p < k ↔ p < k + 1 := by omega
      simp [this]
    · simp [hp]
theorem partF_all (f : Nat → Bool) : ofFlags (partF f 256) = setOf f := by
  refine set_ext (setOf_lt _) (setOf_lt _) fun p hp => ?_
  rw [testBit_ofFlags, testBit_setOf]
  simp [hp, partF]
theorem setOf_or {a b : Nat} (ha : a < 2 ^ 256) (hb : b < 2 ^ 256) : setOf (fun p => a.testBit p || b.testBit p) = a ||| b := by
  refine set_ext (setOf_lt _) (or_lt ha hb) fun p hp => ?_
  rw [testBit_setOf, Nat.testBit_or]; simp [hp]
theorem setOf_and {a b : Nat} (ha : a < 2 ^ 256) : setOf (fun p => a.testBit p && b.testBit p) = a &&& b := by
  refine set_ext (setOf_lt _) (Nat.lt_of_le_of_lt Nat.and_le_left ha) fun p hp => ?_
  rw [testBit_setOf, Nat.testBit_and]; simp [hp]
theorem setOf_less {a b : Nat} (ha : a < 2 ^ 256) : setOf (fun p => a.testBit p && !b.testBit p) = lessN a b := by
  refine set_ext (setOf_lt _) (lessN_lt _ _) fun p hp => ?_
  rw [testBit_setOf, testBit_lessN ha]; simp [hp]
theorem ent5 : enters Try.prog 5 = true := by kernel_rfl
theorem law5 (a : Nat) (ha : a < 2 ^ 256) (b : Nat) (hb : b < 2 ^ 256) (w : World) : Fun Try.prog 5 [sv a, sv b] w fun v w' => v = .bool true ∧ Same w w' := by
  refine fun_of_W (N := 96) Try.func5 ent5 rfl rfl rfl (by simp) ?_
  have H := Hp.start0 w
  refine H.box 24 (sv a) (cs := sc a) rfl ?_
  intro g1 w1 H
  refine H.box 24 (sv b) (cs := sc b) rfl ?_
  intro g2 w2 H
  refine draw_mix (fun w' => Hp w (fun _ => False) w' [blk g2 24 (sc b), blk g1 24 (sc a)] []) fol (by kernel_rfl) (H.same (Keeps.drew _)) ?_
  have H := (H.same (Keeps.drew _))
  refine quiet (sv a) (fun w H => H.loadAll 1 rfl agg24 size24 ⟨rfl, rfl⟩) ?_
  refine call_fn (c40 a _) ?_
  rintro v w3 ⟨A, c, rfl, hnew⟩
  refine ⟨.inl (H.same hnew.keeps), ?_⟩
  have H := H.addNew hnew
  clear hnew
  refine quiet (sv b) (fun w H => H.loadAll 0 rfl agg24 size24 ⟨rfl, rfl⟩) ?_
  refine call_fn (c40 b _) ?_
  rintro v w4 ⟨A', c', rfl, hnew⟩
  refine ⟨.inl (H.forget.same hnew.keeps), ?_⟩
  have H := H.addNew hnew
  clear hnew
  refine cut_rule (γ := Nat × Nat × Nat) _ rfl (fun (x, y, z) => [(7, .slice (some ⟨x, 0, none⟩) 256 256), (8, .slice (some ⟨y, 0, none⟩) 256 256), (9, .slice (some ⟨z, 0, none⟩) 256 256)])
    (fun (x, y, z) w' => Hp w (fun _ => False) w' [own 4 1 (.slice (some ⟨z, 0, none⟩) 256 256) 256 (bls (List.replicate 256 false)), own 4 1 (.slice (some ⟨y, 0, none⟩) 256 256) 256 (bls (List.replicate 256 false)), own 4 1 (.slice (some ⟨x, 0, none⟩) 256 256) 256 (bls (List.replicate 256 false)), own 4 1 (.slice A' 256 c') 256 (bls (flagsN b)), own 4 1 (.slice A 256 c) 256 (bls (flagsN a)), blk g2 24 (sc b), blk g1 24 (sc a)] []) ?_ ?_
  · refine draw_orders (fun w' => Hp w (fun _ => False) w' [own 4 1 (.slice A' 256 c') 256 (bls (flagsN b)), own 4 1 (.slice A 256 c) 256 (bls (flagsN a)), blk g2 24 (sc b), blk g1 24 (sc a)] [])
      [([0, 1, 2], [0, 1, 2, 3, 4, 5]), ([0, 2, 1], [0, 2, 1, 3, 4, 5]), ([1, 0, 2], [1, 0, 2, 3, 4, 5]), ([1, 2, 0], [1, 2, 0, 3, 4, 5]), ([2, 0, 1], [2, 0, 1, 3, 4, 5]), ([2, 1, 0], [2, 1, 0, 3, 4, 5])] fol (by kernel_rfl) (H.same (Keeps.drew _)) ?_
    have H := (H.same (Keeps.drew _))
    intro x hx
    simp only [List.mem_cons, List.not_mem_nil, or_false] at hx
    rcases hx with rfl | rfl | rfl | rfl | rfl | rfl
    · refine H.make T29 256 rfl rfl (by decide) (by decide) ?_
      intro x0 u0 H
      rw [madeBool, show List.replicate 256 (Value.bool false) = bls (List.replicate 256 false) from List.map_replicate.symm] at H
      refine ⟨.inl H.forget, ?_⟩
      refine H.make T29 256 rfl rfl (by decide) (by decide) ?_
      intro x1 u1 H
      rw [madeBool, show List.replicate 256 (Value.bool false) = bls (List.replicate 256 false) from List.map_replicate.symm] at H
      refine ⟨.inl H.forget.forget, ?_⟩
      refine H.make T29 256 rfl rfl (by decide) (by decide) ?_
      intro x2 u2 H
      rw [madeBool, show List.replicate 256 (Value.bool false) = bls (List.replicate 256 false) from List.map_replicate.symm] at H
      refine ⟨.inl H.forget.forget.forget, ?_⟩
      exact ⟨(x0, x1, x2), ⟨rfl, rfl, rfl, trivial⟩, (((H.front 2 rfl).front 2 rfl).front 2 rfl)⟩
    · refine H.make T29 256 rfl rfl (by decide) (by decide) ?_
      intro x0 u0 H
      rw [madeBool, show List.replicate 256 (Value.bool false) = bls (List.replicate 256 false) from List.map_replicate.symm] at H
      refine ⟨.inl H.forget, ?_⟩
      refine H.make T29 256 rfl rfl (by decide) (by decide) ?_
      intro x2 u2 H
      rw [madeBool, show List.replicate 256 (Value.bool false) = bls (List.replicate 256 false) from List.map_replicate.symm] at H
      refine ⟨.inl H.forget.forget, ?_⟩
      refine H.make T29 256 rfl rfl (by decide) (by decide) ?_
      intro x1 u1 H
      rw [madeBool, show List.replicate 256 (Value.bool false) = bls (List.replicate 256 false) from List.map_replicate.symm] at H
      refine ⟨.inl H.forget.forget.forget, ?_⟩
      exact ⟨(x0, x1, x2), ⟨rfl, rfl, rfl, trivial⟩, (((H.front 2 rfl).front 1 rfl).front 2 rfl)⟩
    · refine H.make T29 256 rfl rfl (by decide) (by decide) ?_
      intro x1 u1 H
      rw [madeBool, show List.replicate 256 (Value.bool false) = bls (List.replicate 256 false) from List.map_replicate.symm] at H
      refine ⟨.inl H.forget, ?_⟩
      refine H.make T29 256 rfl rfl (by decide) (by decide) ?_
      intro x0 u0 H
      rw [madeBool, show List.replicate 256 (Value.bool false) = bls (List.replicate 256 false) from List.map_replicate.symm] at H
      refine ⟨.inl H.forget.forget, ?_⟩
      refine H.make T29 256 rfl rfl (by decide) (by decide) ?_
      intro x2 u2 H
      rw [madeBool, show List.replicate 256 (Value.bool false) = bls (List.replicate 256 false) from List.map_replicate.symm] at H
      refine ⟨.inl H.forget.forget.forget, ?_⟩
      exact ⟨(x0, x1, x2), ⟨rfl, rfl, rfl, trivial⟩, (((H.front 1 rfl).front 2 rfl).front 2 rfl)⟩
    · refine H.make T29 256 rfl rfl (by decide) (by decide) ?_
      intro x1 u1 H
      rw [madeBool, show List.replicate 256 (Value.bool false) = bls (List.replicate 256 false) from List.map_replicate.symm] at H
      refine ⟨.inl H.forget, ?_⟩
      refine H.make T29 256 rfl rfl (by decide) (by decide) ?_
      intro x2 u2 H
      rw [madeBool, show List.replicate 256 (Value.bool false) = bls (List.replicate 256 false) from List.map_replicate.symm] at H
      refine ⟨.inl H.forget.forget, ?_⟩
      refine H.make T29 256 rfl rfl (by decide) (by decide) ?_
      intro x0 u0 H
      rw [madeBool, show List.replicate 256 (Value.bool false) = bls (List.replicate 256 false) from List.map_replicate.symm] at H
      refine ⟨.inl H.forget.forget.forget, ?_⟩
      exact ⟨(x0, x1, x2), ⟨rfl, rfl, rfl, trivial⟩, (((H.front 0 rfl).front 2 rfl).front 2 rfl)⟩
    · refine H.make T29 256 rfl rfl (by decide) (by decide) ?_
      intro x2 u2 H
      rw [madeBool, show List.replicate 256 (Value.bool false) = bls (List.replicate 256 false) from List.map_replicate.symm] at H
      refine ⟨.inl H.forget, ?_⟩
      refine H.make T29 256 rfl rfl (by decide) (by decide) ?_
      intro x0 u0 H
      rw [madeBool, show List.replicate 256 (Value.bool false) = bls (List.replicate 256 false) from List.map_replicate.symm] at H
      refine ⟨.inl H.forget.forget, ?_⟩
      refine H.make T29 256 rfl rfl (by decide) (by decide) ?_
      intro x1 u1 H
      rw [madeBool, show List.replicate 256 (Value.bool false) = bls (List.replicate 256 false) from List.map_replicate.symm] at H
      refine ⟨.inl H.forget.forget.forget, ?_⟩
      exact ⟨(x0, x1, x2), ⟨rfl, rfl, rfl, trivial⟩, (((H.front 1 rfl).front 1 rfl).front 2 rfl)⟩
    · refine H.make T29 256 rfl rfl (by decide) (by decide) ?_
      intro x2 u2 H
      rw [madeBool, show List.replicate 256 (Value.bool false) = bls (List.replicate 256 false) from List.map_replicate.symm] at H
      refine ⟨.inl H.forget, ?_⟩
      refine H.make T29 256 rfl rfl (by decide) (by decide) ?_
      intro x1 u1 H
      rw [madeBool, show List.replicate 256 (Value.bool false) = bls (List.replicate 256 false) from List.map_replicate.symm] at H
      refine ⟨.inl H.forget.forget, ?_⟩
      refine H.make T29 256 rfl rfl (by decide) (by decide) ?_
      intro x0 u0 H
      rw [madeBool, show List.replicate 256 (Value.bool false) = bls (List.replicate 256 false) from List.map_replicate.symm] at H
      refine ⟨.inl H.forget.forget.forget, ?_⟩
      exact ⟨(x0, x1, x2), ⟨rfl, rfl, rfl, trivial⟩, (((H.front 0 rfl).front 1 rfl).front 2 rfl)⟩
  · clear H
    rintro ⟨x, y, z⟩ u w5 H
    dsimp only at H
    obtain ⟨ga, rfl⟩ := H.ownA 4 rfl (by omega)
    obtain ⟨gb, rfl⟩ := H.ownA 3 rfl (by omega)
    refine loop_rule (γ := Nat) _ rfl (fun i => [(10, .int .i64 (i : Int))])
      (fun i w' => i ≤ 256 ∧ Hp w (fun _ => False) w' [own 4 1 (.slice (some ⟨z, 0, none⟩) 256 256) 256 (bls (partF (fun p => a.testBit p && !b.testBit p) i)), own 4 1 (.slice (some ⟨y, 0, none⟩) 256 256) 256 (bls (partF (fun p => a.testBit p && b.testBit p) i)), own 4 1 (.slice (some ⟨x, 0, none⟩) 256 256) 256 (bls (partF (fun p => a.testBit p || b.testBit p) i)), own 4 1 (.slice (some ⟨gb, 0, none⟩) 256 c') 256 (bls (flagsN b)), own 4 1 (.slice (some ⟨ga, 0, none⟩) 256 c) 256 (bls (flagsN a)), blk g2 24 (sc b), blk g1 24 (sc a)] [])
      (fun i => 256 - i) 0 ⟨rfl, trivial⟩ ⟨by omega, by simpa only [partF_zero] using H⟩ ?_
    clear H
    rintro i u w6 ⟨hi, H⟩
    refine cond_split (fun h => ?_) (fun h => ?_)
    · have hi' : i < 256 := by have := of_decide_eq_true h; omega
      refine idxAddr_sl Try.underlying29 size4 i rfl hi' (o' := i) (by omega) ?_
      refine H.loadOwn 4 rfl agg4 (flagsN_get hi') ?_
      rcases Bool.eq_false_or_eq_true (a.testBit i) with hta | hta
      · have hta : a.testBit i = true := hta
        repeat refine cond_yes hta ?_
        refine idxAddr_sl Try.underlying29 size4 i rfl hi' (o' := i) (by omega) ?_
        refine H.storeOwn 2 rfl size4 (by rw [bls, List.length_map, partF_length]; exact hi') rfl ?_
        intro w7 H
        refine idxAddr_sl Try.underlying29 size4 i rfl hi' (o' := i) (by omega) ?_
        refine H.loadOwn 4 rfl agg4 (flagsN_get hi') ?_
        repeat refine cond_yes hta ?_
        refine idxAddr_sl Try.underlying29 size4 i rfl hi' (o' := i) (by omega) ?_
        repeat refine cond_yes hta ?_
        refine H.loadOwn 3 rfl agg4 (flagsN_get hi') ?_
        repeat refine cond_yes hta ?_
        refine idxAddr_sl Try.underlying29 size4 i rfl hi' (o' := i) (by omega) ?_
        refine H.storeOwn 1 rfl size4 (by rw [bls, List.length_map, partF_length]; exact hi') rfl ?_
        intro w8 H
        refine idxAddr_sl Try.underlying29 size4 i rfl hi' (o' := i) (by omega) ?_
        refine H.loadOwn 4 rfl agg4 (flagsN_get hi') ?_
        repeat refine cond_yes hta ?_
        refine idxAddr_sl Try.underlying29 size4 i rfl hi' (o' := i) (by omega) ?_
        repeat refine cond_yes hta ?_
        refine H.loadOwn 3 rfl agg4 (flagsN_get hi') ?_
        repeat refine cond_yes hta ?_
        refine idxAddr_sl Try.underlying29 size4 i rfl hi' (o' := i) (by omega) ?_
        refine H.storeOwn 0 rfl size4 (by rw [bls, List.length_map, partF_length]; exact hi') rfl ?_
        intro w9 H
        refine ⟨i + 1, by omega, ⟨up (by omega), trivial⟩, by omega, ?_⟩
        rw [← partF_set (fun p => a.testBit p || b.testBit p) hi', ← partF_set (fun p => a.testBit p && b.testBit p) hi', ← partF_set (fun p => a.testBit p && !b.testBit p) hi']
        simp only [hta, Bool.true_or, Bool.true_and]
        exact H
      · have hta : a.testBit i = false := hta
        repeat refine cond_no hta ?_
        refine idxAddr_sl Try.underlying29 size4 i rfl hi' (o' := i) (by omega) ?_
        repeat refine cond_no hta ?_
        refine H.loadOwn 3 rfl agg4 (flagsN_get hi') ?_
        repeat refine cond_no hta ?_
        refine idxAddr_sl Try.underlying29 size4 i rfl hi' (o' := i) (by omega) ?_
        refine H.storeOwn 2 rfl size4 (by rw [bls, List.length_map, partF_length]; exact hi') rfl ?_
        intro w7 H
        refine idxAddr_sl Try.underlying29 size4 i rfl hi' (o' := i) (by omega) ?_
        refine H.loadOwn 4 rfl agg4 (flagsN_get hi') ?_
        repeat refine cond_no hta ?_
        refine idxAddr_sl Try.underlying29 size4 i rfl hi' (o' := i) (by omega) ?_
        refine H.storeOwn 1 rfl size4 (by rw [bls, List.length_map, partF_length]; exact hi') rfl ?_
        intro w8 H
        refine idxAddr_sl Try.underlying29 size4 i rfl hi' (o' := i) (by omega) ?_
        refine H.loadOwn 4 rfl agg4 (flagsN_get hi') ?_
        repeat refine cond_no hta ?_
        refine idxAddr_sl Try.underlying29 size4 i rfl hi' (o' := i) (by omega) ?_
        refine H.storeOwn 0 rfl size4 (by rw [bls, List.length_map, partF_length]; exact hi') rfl ?_
        intro w9 H
        refine ⟨i + 1, by omega, ⟨up (by omega), trivial⟩, by omega, ?_⟩
        rw [← partF_set (fun p => a.testBit p || b.testBit p) hi', ← partF_set (fun p => a.testBit p && b.testBit p) hi', ← partF_set (fun p => a.testBit p && !b.testBit p) hi']
        simp only [hta, Bool.false_or, Bool.false_and]
        exact H
    · obtain rfl : i = 256 := by have := of_decide_eq_false h; omega
      refine draw_mix (fun w' => Hp w (fun _ => False) w' [own 4 1 (.slice (some ⟨z, 0, none⟩) 256 256) 256 (bls (partF (fun p => a.testBit p && !b.testBit p) 256)), own 4 1 (.slice (some ⟨y, 0, none⟩) 256 256) 256 (bls (partF (fun p => a.testBit p && b.testBit p) 256)), own 4 1 (.slice (some ⟨x, 0, none⟩) 256 256) 256 (bls (partF (fun p => a.testBit p || b.testBit p) 256)), own 4 1 (.slice (some ⟨gb, 0, none⟩) 256 c') 256 (bls (flagsN b)), own 4 1 (.slice (some ⟨ga, 0, none⟩) 256 c) 256 (bls (flagsN a)), blk g2 24 (sc b), blk g1 24 (sc a)] []) fol (by kernel_rfl) (H.same (Keeps.drew _)) ?_
      have H := (H.same (Keeps.drew _))
      have hor := or_lt ha hb
      have hand : a &&& b < 2 ^ 256 := Nat.lt_of_le_of_lt Nat.and_le_left ha
      have hless := lessN_lt a b
      refine quiet (sv a) (fun w H => H.loadAll 6 rfl agg24 size24 ⟨rfl, rfl⟩) ?_
      refine quiet (sv b) (fun w H => H.loadAll 5 rfl agg24 size24 ⟨rfl, rfl⟩) ?_
      refine call_fn (c50 a b _) ?_
      rintro v w7 ⟨rfl, hk⟩
      have H := H.same hk
      refine ⟨.inl H, ?_⟩
      refine call_fn (c38 _ (partF_length _ _) _ _ _ (own_Sl (H.get 2 rfl))) ?_
      rintro v w8 ⟨rfl, hk⟩
      have H := H.same hk
      refine ⟨.inl H, ?_⟩
      rw [partF_all, setOf_or ha hb]
      refine quiet (.bool (a ||| b == (a ||| b))) (fun w _ => bin_eql24 hor hor ⟨rfl, rfl⟩) ?_
      repeat refine cond_yes (beq_self_eq_true _) ?_
      refine quiet (sv a) (fun w H => H.loadAll 6 rfl agg24 size24 ⟨rfl, rfl⟩) ?_
      repeat refine cond_yes (beq_self_eq_true _) ?_
      refine quiet (sv b) (fun w H => H.loadAll 5 rfl agg24 size24 ⟨rfl, rfl⟩) ?_
      repeat refine cond_yes (beq_self_eq_true _) ?_
      refine call_fn (c51 a b _) ?_
      rintro v w9 ⟨rfl, hk⟩
      have H := H.same hk
      refine ⟨.inl H, ?_⟩
      repeat refine cond_yes (beq_self_eq_true _) ?_
      refine call_fn (c38 _ (partF_length _ _) _ _ _ (own_Sl (H.get 1 rfl))) ?_
      rintro v w10 ⟨rfl, hk⟩
      have H := H.same hk
      refine ⟨.inl H, ?_⟩
      repeat refine cond_yes (beq_self_eq_true _) ?_
      rw [partF_all, setOf_and ha]
      refine quiet (.bool (a &&& b == (a &&& b))) (fun w _ => bin_eql24 hand hand ⟨rfl, rfl⟩) ?_
      repeat refine cond_yes (beq_self_eq_true _) ?_
      refine quiet (sv a) (fun w H => H.loadAll 6 rfl agg24 size24 ⟨rfl, rfl⟩) ?_
      repeat refine cond_yes (beq_self_eq_true _) ?_
      refine quiet (sv b) (fun w H => H.loadAll 5 rfl agg24 size24 ⟨rfl, rfl⟩) ?_
      repeat refine cond_yes (beq_self_eq_true _) ?_
      refine call_fn (c52 a b ha _) ?_
      rintro v w11 ⟨rfl, hk⟩
      have H := H.same hk
      refine ⟨.inl H, ?_⟩
      repeat refine cond_yes (beq_self_eq_true _) ?_
      refine call_fn (c38 _ (partF_length _ _) _ _ _ (own_Sl (H.get 0 rfl))) ?_
      rintro v w12 ⟨rfl, hk⟩
      have H := H.same hk
      refine ⟨.inl H, ?_⟩
      repeat refine cond_yes (beq_self_eq_true _) ?_
      rw [partF_all, setOf_less ha]
      refine quiet (.bool (lessN a b == lessN a b)) (fun w _ => bin_eql24 hless hless ⟨rfl, rfl⟩) ?_
      repeat refine cond_yes (beq_self_eq_true _) ?_
      refine quiet (sv a) (fun w H => H.loadAll 6 rfl agg24 size24 ⟨rfl, rfl⟩) ?_
      repeat refine cond_yes (beq_self_eq_true _) ?_
      refine quiet (sv b) (fun w H => H.loadAll 5 rfl agg24 size24 ⟨rfl, rfl⟩) ?_
      repeat refine cond_yes (beq_self_eq_true _) ?_
      refine call_fn (c53 a b ha _) ?_
      rintro v w13 ⟨rfl, hk⟩
      have H := H.same hk
      refine ⟨.inl H, ?_⟩
      repeat refine cond_yes (beq_self_eq_true _) ?_
      refine quiet (sv a) (fun w H => H.loadAll 6 rfl agg24 size24 ⟨rfl, rfl⟩) ?_
      repeat refine cond_yes (beq_self_eq_true _) ?_
      refine quiet (sv b) (fun w H => H.loadAll 5 rfl agg24 size24 ⟨rfl, rfl⟩) ?_
      repeat refine cond_yes (beq_self_eq_true _) ?_
      refine call_fn (c54 a b ha _) ?_
      rintro v w14 ⟨rfl, hk⟩
      have H := H.same hk
      refine ⟨.inl H, ?_⟩
      repeat refine cond_yes (beq_self_eq_true _) ?_
      refine quiet (.bool ((lessN a b == 0) == (lessN a b == 0))) (fun w _ => bin_eql_bool Try.underlying4 ⟨rfl, rfl⟩) ?_
      repeat refine cond_yes (beq_self_eq_true _) ?_
      refine call_fn (c47 _) ?_
      rintro v w15 ⟨rfl, hk⟩
      have H := H.same hk
      refine ⟨.inl H, ?_⟩
      repeat refine cond_yes (beq_self_eq_true _) ?_
      exact ⟨rfl, H.keeps⟩

import Derived.Test.YtjebpngdinbckaaS6
/- The statements of chapter 1: SetHalves. -/
namespace Go.Proofs.Ytjebpngdinbckaa
open Go.Dk
attribute [local irreducible] IntKind.wrap

/-! ### SetHalves -/
theorem ofFlags_lt (l : List Bool) : ofFlags l < 2 ^ 256 := setOf_lt _
theorem testBit_ofFlags (l : List Bool) (p : Nat) : (ofFlags l).testBit p = (decide (p < 256) && l.getD p false) := by
  rw [ofFlags, testBit_setOf]
theorem ofFlags_set {l : List Bool} (hl : l.length = 256) {p : Nat} (hp : p < 256) : ofFlags (l.set p true) = ofFlags l ||| 2 ^ p := by
  refine set_ext (setOf_lt _) (or_lt (ofFlags_lt l) (Nat.pow_lt_pow_right (by decide) hp)) fun q hq => ?_
  rw [testBit_ofFlags, Nat.testBit_or, testBit_ofFlags, Nat.testBit_two_pow, List.getD_eq_getElem?_getD, List.getElem?_set]
  by_cases h : p = q
  · subst h; simp [hq, hl]
  · simp [h, hq]
theorem ofFlags_none : ofFlags (List.replicate 256 false) = 0 := by
  refine set_ext (setOf_lt _) (by decide) fun q hq => ?_
  rw [testBit_ofFlags, Nat.zero_testBit, List.getD_eq_getElem?_getD, List.getElem?_replicate]
  simp [hq]
theorem pts_lt {n p : Nat} (hp : p ∈ pts n) : p < 256 := (mem_bitsBelow.1 hp).1
theorem ent4 : enters Try.prog 4 = true := by kernel_rfl
theorem law4 (n : Nat) (_ : n < 2 ^ 256) (m : Int) (one : Bool) (w : World) : Fun Try.prog 4 [sv n, .int .i64 m, .bool one] w fun v w' => v = .bool true ∧ Same w w' := by
  refine fun_of_W (N := 52) Try.func4 ent4 rfl rfl rfl (by simp) ?_
  have H := Hp.start0 w
  refine H.box 24 (sv n) (cs := sc n) rfl ?_
  intro g1 w1 H
  refine H.make T29 256 rfl rfl (by decide) (by decide) ?_
  intro g w2 H
  rw [madeBool, show List.replicate 256 (Value.bool false) = bls (List.replicate 256 false) from List.map_replicate.symm] at H
  refine H.loadAll 1 rfl agg24 size24 ?_
  refine call_fn (c42 n _) ?_
  rintro v w3 ⟨A, c, rfl, hnew⟩
  have H := H.addNew hnew
  clear hnew
  have hple := pts_le n
  refine cut_rule (γ := List Bool) _ rfl (fun _ => []) (fun l w' => (l.length = 256 ∧ ofFlags l = halfI n m one) ∧
      Hp w (fun _ => False) w' [own 3 1 (.slice A (pts n).length c) (pts n).length (ints (pts n)), own 4 1 (.slice (some ⟨g, 0, none⟩) 256 256) 256 (bls l), blk g1 24 (sc n)] []) ?_ ?_
  · refine loop_rule (γ := Nat × List Bool) _ rfl (fun (i, _) => [(9, .int .i64 (i : Int))])
      (fun (i, l) w' => (i ≤ (pts n).length ∧ l.length = 256 ∧ ofFlags l = if 0 ≤ m ∧ m < 8 then orAll (((pts n).take i).filter fun p => p.testBit m.toNat == one) else 0) ∧
        Hp w (fun _ => False) w' [own 3 1 (.slice A (pts n).length c) (pts n).length (ints (pts n)), own 4 1 (.slice (some ⟨g, 0, none⟩) 256 256) 256 (bls l), blk g1 24 (sc n)] [])
      (fun (i, _) => (pts n).length - i) (0, List.replicate 256 false) ⟨rfl, trivial⟩ ⟨⟨by omega, List.length_replicate, by rw [ofFlags_none]; simp [orAll]⟩, H⟩ ?_
    clear H
    rintro ⟨i, l⟩ u w4 ⟨⟨hi, hl, hf⟩, H⟩
    refine len_sl Try.underlying32 ?_
    have fin : ((pts n).length ≤ i ∨ ¬ (0 ≤ m ∧ m < 8)) → ofFlags l = halfI n m one := by
      intro h
      unfold halfI
      rw [hf]
      by_cases hm : 0 ≤ m ∧ m < 8
      · rw [if_pos hm, if_pos hm, halfN_eq, List.take_of_length_le (by omega)]
      · rw [if_neg hm, if_neg hm]
    refine cond_split (fun h => ?_) (fun h => ?_)
    · have hi' : i < (pts n).length := by have := of_decide_eq_true h; omega
      refine cond_yes h ?_
      refine cond_yes h ?_
      refine cond_split (fun h0 => ?_) (fun h0 => ?_)
      · have h0' := of_decide_eq_true h0
        refine cond_yes h0 ?_
        refine cond_yes h0 ?_
        refine cond_split (fun h8 => ?_) (fun h8 => ?_)
        · have h8' := of_decide_eq_true h8
          obtain ⟨q, rfl⟩ := Int.eq_ofNat_of_zero_le (show 0 ≤ m by omega)
          obtain ⟨ga, rfl⟩ := H.ownA 0 rfl (by omega)
          have hp := pts_lt (List.getElem_mem hi')
          refine idxAddr_sl Try.underlying32 size3 i rfl hi' (o' := i) (by omega) ?_
          refine H.loadOwn 0 rfl agg3 (ints_get hi') ?_
          refine call_fn (c48 (pts n)[i] q (by omega) (by omega) _) ?_
          rintro v w5 ⟨rfl, hk⟩
          have H := H.same hk
          have hb : ((((pts n)[i] / 2 ^ q % 2 : Nat) : Int) == 1) = (pts n)[i].testBit q := by rw [← div_pow_mod, Bool.eq_iff_iff, beq_iff_eq, decide_eq_true_eq]
          refine bin_eql_bool Try.underlying4 ?_
          rw [hb]
          rw [if_pos ⟨h0', h8'⟩] at hf
          have htake : (pts n).take (i + 1) = (pts n).take i ++ [(pts n)[i]] := (List.take_append_getElem hi').symm
          refine cond_split (fun ht => ?_) (fun ht => ?_)
          · refine idxAddr_sl Try.underlying32 size3 i rfl hi' (o' := i) (by omega) ?_
            refine H.loadOwn 0 rfl agg3 (ints_get hi') ?_
            refine idxAddr_sl Try.underlying29 size4 (pts n)[i] rfl hp (o' := (pts n)[i]) (by omega) ?_
            refine H.storeOwn 1 rfl size4 ?_ rfl ?_
            · rw [bls, List.length_map]; omega
            intro w6 H
            refine ⟨(i + 1, l.set (pts n)[i] true), by show _ - (i + 1) < _ - i; omega, ⟨up (by omega), trivial⟩, ⟨by show i + 1 ≤ _; omega, by rw [List.length_set]; exact hl, ?_⟩, ?_⟩
            · show ofFlags (l.set (pts n)[i] true) = if 0 ≤ (q : Int) ∧ (q : Int) < 8 then orAll (((pts n).take (i + 1)).filter fun p => p.testBit (q : Int).toNat == one) else 0
              rw [if_pos ⟨h0', h8'⟩, ofFlags_set hl hp, hf, htake, List.filter_append, List.filter_cons_of_pos (by simpa using ht), List.filter_nil, orAll_snoc]
            · have e : (bls l).set (pts n)[i] (.bool true) = bls (l.set (pts n)[i] true) := by rw [bls, bls, List.map_set]
              rw [← e]; exact H
          · refine ⟨(i + 1, l), by show _ - (i + 1) < _ - i; omega, ⟨up (by omega), trivial⟩, ⟨by show i + 1 ≤ _; omega, hl, ?_⟩, H⟩
            show ofFlags l = if 0 ≤ (q : Int) ∧ (q : Int) < 8 then orAll (((pts n).take (i + 1)).filter fun p => p.testBit (q : Int).toNat == one) else 0
            rw [if_pos ⟨h0', h8'⟩, hf, htake, List.filter_append, List.filter_cons_of_neg (by simpa using ht), List.filter_nil, List.append_nil]
        · exact ⟨l, trivial, ⟨hl, fin (.inr (by have := of_decide_eq_false h8; omega))⟩, H⟩
      · refine cond_no h0 ?_
        refine cond_no h0 ?_
        refine cond_no rfl ?_
        exact ⟨l, trivial, ⟨hl, fin (.inr (by have := of_decide_eq_false h0; omega))⟩, H⟩
    · refine cond_no h ?_
      refine cond_no h ?_
      repeat refine cond_no rfl ?_
      exact ⟨l, trivial, ⟨hl, fin (.inl (by have := of_decide_eq_false h; omega))⟩, H⟩
  · clear H
    rintro l u w4 ⟨⟨hl, hf⟩, H⟩
    refine H.loadAll 2 rfl agg24 size24 ?_
    refine call_fn (c49 n m one _) ?_
    rintro v w5 ⟨rfl, hk⟩
    have H := H.same hk
    refine call_fn (c38 l hl _ _ _ (own_Sl (H.get 1 rfl))) ?_
    rintro v w6 ⟨rfl, hk⟩
    have H := H.same hk
    have hlt := ofFlags_lt l
    rw [hf] at hlt ⊢
    refine bin_eql24 hlt hlt ?_
    repeat refine cond_yes (beq_self_eq_true _) ?_
    refine call_fn (c47 _) ?_
    rintro v w16 ⟨rfl, hk⟩
    have H := H.same hk
    repeat refine cond_yes (beq_self_eq_true _) ?_
    exact ⟨rfl, H.keeps⟩

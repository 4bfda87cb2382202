import Derived.Test.YtjebpngdinbckaaS5

/- The statements of chapter 1. -/
namespace Go.Proofs.Ytjebpngdinbckaa
open Go.Dk
attribute [local irreducible] IntKind.wrap

theorem pts_le (n : Nat) : (pts n).length ≤ 256 := by unfold pts; exact Nat.le_trans (List.length_filter_le _ _) (by simp)
theorem withI_lt {n : Nat} (hn : n < 2 ^ 256) (p : Int) : withI n p < 2 ^ 256 := by
  cases h : mayB p with
  | true =>
    have h' : 0 ≤ p ∧ p < 256 := by simpa [mayB] using h
    simp only [withI, h, if_true]
    exact or_lt hn (Nat.pow_lt_pow_right (by decide) (by omega))
  | false => simpa [withI, h] using hn
theorem law3 (n : Nat) (hn : n < 2 ^ 256) (m p : Int) (w : World) : Fun Try.prog 3 [sv n, .int .i64 m, .int .i64 p] w fun v w' => v = .bool true ∧ Same w w' := by
  refine fun_of_W (N := 100) Try.func3 ent3 rfl rfl rfl (by simp) ?_
  have H := Hp.start0 w
  refine H.box 24 (sv n) (cs := sc n) rfl ?_
  intro g1 w1 H
  have hcall : ∃ (s : Nat) (e : Int), Fun Try.prog 37 [.int .i64 m] w1 (fun v w' => v = .tuple #[sv s, .int .i64 e] ∧ Same w1 w') ∧ s < 2 ^ 256 ∧
      ((m < 0 ∨ 8 < m) ∧ s = 0 ∧ e = 1 ∨ (0 ≤ m ∧ m ≤ 8) ∧ s = allN m.toNat ∧ e = 0) := by
    by_cases hm : m < 0 ∨ 8 < m
    · exact ⟨0, 1, c37_no m hm _, by decide, .inl ⟨hm, rfl, rfl⟩⟩
    · obtain ⟨q, rfl⟩ := Int.eq_ofNat_of_zero_le (show 0 ≤ m by omega)
      exact ⟨allN q, 0, c37_yes q (by omega) _, allN_lt _, .inr ⟨by omega, rfl, rfl⟩⟩
  obtain ⟨s, e, hcall, hs, hse⟩ := hcall
  refine call_fn hcall ?_
  rintro v w2 ⟨rfl, hk⟩
  have H := H.same hk
  refine H.alloc 24 (cs := sc 0) zero24 sc_zero ?_
  intro g2 w3 H
  refine H.storeAll 0 rfl size24 rfl (sc_one _) ?_
  intro w4 H
  refine cut_rule (γ := Unit) _ rfl (fun _ => []) (fun _ w' => Hp w (fun _ => False) w' [blk g2 24 (sc s), blk g1 24 (sc n)] []) ?_ ?_
  · refine cond_split (fun h => ?_) (fun h => ?_)
    · have hm : m < 0 := of_decide_eq_true h
      obtain ⟨_, rfl, rfl⟩ : _ ∧ s = 0 ∧ e = 1 := by rcases hse with h | h; exact h; omega
      refine cond_yes h ?_
      refine cond_yes h ?_
      refine cond_yes rfl ?_
      refine H.loadAll 0 rfl agg24 size24 ?_
      refine build24 ?_
      refine bin_neq24 hs (by decide) ?_
      repeat refine cond_no rfl ?_
      exact ⟨(), trivial, H⟩
    · refine cond_no h ?_
      refine cond_no h ?_
      refine cond_split (fun h8 => ?_) (fun h8 => ?_)
      · have hm : 8 < m := of_decide_eq_true h8
        obtain ⟨_, rfl, rfl⟩ : _ ∧ s = 0 ∧ e = 1 := by rcases hse with h | h; exact h; omega
        refine H.loadAll 0 rfl agg24 size24 ?_
        refine build24 ?_
        refine bin_neq24 hs (by decide) ?_
        repeat refine cond_no rfl ?_
        exact ⟨(), trivial, H⟩
      · have h := of_decide_eq_false h
        have h8 := of_decide_eq_false h8
        obtain ⟨q, rfl⟩ := Int.eq_ofNat_of_zero_le (show 0 ≤ m by omega)
        obtain ⟨_, rfl, rfl⟩ : _ ∧ s = allN q ∧ e = 0 := by rcases hse with h | h; omega; exact h
        refine draw_mix (fun w' => Hp w (fun _ => False) w' [blk g2 24 (sc (allN q)), blk g1 24 (sc n)] []) fol (by kernel_rfl) (H.same (Keeps.drew _)) ?_
        refine quiet (sv (allN q)) (fun w H => H.loadAll 0 rfl agg24 size24 ⟨rfl, rfl⟩) ?_
        refine call_fn (c39 q (by omega) _) ?_
        rintro v w5 ⟨A, c, rfl, hn⟩
        have H := (H.same (Keeps.drew _))
        refine ⟨.inl (H.same hn.keeps), ?_⟩
        have H := H.addNew hn
        have hall : (allFlags q).length = 256 := by simp [allFlags]
        refine call_fn (c38 (allFlags q) hall A c _ (own_Sl (H.get 0 rfl))) ?_
        rintro v w6 ⟨rfl, hk⟩
        have H := H.forget.same hk
        refine ⟨.inl H, ?_⟩
        rw [flags_all]
        refine quiet (.bool (allN q != allN q)) (fun w _ => bin_neq24 (allN_lt _) (allN_lt _) ⟨rfl, rfl⟩) ?_
        rw [bne_self_eq_false]
        repeat refine cond_no rfl ?_
        refine ⟨(), trivial, H⟩
  · intro _ u w5 H
    clear hcall hse
    refine H.loadAll 1 rfl agg24 size24 ?_
    refine call_fn (c40 n _) ?_
    rintro v w6 ⟨A, c, rfl, hnew⟩
    have H := H.addNew hnew
    clear hnew
    refine cut_rule (γ := List Bool) _ rfl (fun _ => []) (fun l w' => (ofFlags l = withI n p ∧ l.length = 256) ∧ Hp w (fun _ => False) w' [own 4 1 (.slice A 256 c) 256 (bls l), blk g2 24 (sc s), blk g1 24 (sc n)] []) ?_ ?_
    · cases hp : mayB p with
      | true =>
        have hp' : 0 ≤ p ∧ p < 256 := by simpa [mayB] using hp
        obtain ⟨q, rfl⟩ := Int.eq_ofNat_of_zero_le hp'.1
        have hq : q < 256 := by omega
        repeat refine cond_yes (decide_eq_true (by omega)) ?_
        obtain ⟨g, rfl⟩ := H.ownA 0 rfl (by omega)
        refine idxAddr_sl Try.underlying29 size4 q rfl hq (o' := q) (by omega) ?_
        refine H.storeOwn 0 rfl size4 ?_ rfl ?_
        · rw [H.ownLen 0 rfl]; omega
        intro w7 H
        refine ⟨(flagsN n).set q true, trivial, ⟨?_, by rw [List.length_set]; exact flagsTo_length n 256⟩, ?_⟩
        · rw [flags_with hn hq]; simp [withI, hp]
        · have e : (bls (flagsN n)).set q (.bool true) = bls ((flagsN n).set q true) := by rw [bls, bls, List.map_set]
          rw [← e]; exact H
      | false =>
        have hend : ∃ l : List Bool, (ofFlags l = withI n p ∧ l.length = 256) ∧ Hp w (fun _ => False) w6 [own 4 1 (.slice A 256 c) 256 (bls l), blk g2 24 (sc s), blk g1 24 (sc n)] [] :=
          ⟨flagsN n, ⟨by rw [flags_set hn]; simp [withI, hp], flagsTo_length n 256⟩, H⟩
        obtain ⟨l, hl, H⟩ := hend
        have hp' : p < 0 ∨ 256 ≤ p := by simp [mayB] at hp; omega
        refine cond_split (fun h => ?_) (fun h => ?_)
        · have h0 := of_decide_eq_true h
          refine cond_yes h ?_
          refine cond_yes h ?_
          refine cond_no (by simp; omega) ?_
          exact ⟨l, trivial, hl, H⟩
        · refine cond_no h ?_
          refine cond_no h ?_
          refine cond_no rfl ?_
          exact ⟨l, trivial, hl, H⟩
    · rintro l u2 w7 ⟨⟨hl, hll⟩, H⟩
      refine draw_mix (fun w' => Hp w (fun _ => False) w' [own 4 1 (.slice A 256 c) 256 (bls l), blk g2 24 (sc s), blk g1 24 (sc n)] []) fol (by kernel_rfl) (H.same (Keeps.drew _)) ?_
      have H := (H.same (Keeps.drew _))
      refine quiet (sv n) (fun w H => H.loadAll 2 rfl agg24 size24 ⟨rfl, rfl⟩) ?_
      refine call_fn (c41 n _) ?_
      rintro v w8 ⟨A1, c1, rfl, hnew⟩
      refine ⟨.inl (H.same hnew.keeps), ?_⟩
      have H := H.addNew hnew
      clear hnew
      refine quiet (sv n) (fun w H => H.loadAll 2 rfl agg24 size24 ⟨rfl, rfl⟩) ?_
      refine call_fn (c42 n _) ?_
      rintro v w9 ⟨A2, c2, rfl, hnew⟩
      refine ⟨.inl (H.forget.same hnew.keeps), ?_⟩
      have H := H.addNew hnew
      clear hnew
      refine len_sl Try.underlying32 ?_
      refine len_sl Try.underlying32 ?_
      repeat refine cond_no (by simp) ?_
      refine H.loadAll 4 rfl agg24 size24 ?_
      repeat refine cond_no (by simp) ?_
      refine call_fn (c43 n hn _) ?_
      rintro v w10 ⟨rfl, hk⟩
      have H := H.same hk
      repeat refine cond_no (by simp) ?_
      refine len_sl Try.underlying32 ?_
      repeat refine cond_no (by simp [pts_length hn]) ?_
      have hple := pts_le n
      refine loop_rule (γ := Nat) _ rfl (fun i => [(12, .int .i64 (i : Int))])
        (fun i w' => i ≤ (pts n).length ∧ Hp w (fun _ => False) w' [own 3 1 (.slice A2 (pts n).length c2) (pts n).length (ints (pts n)), own 3 1 (.slice A1 (pts n).length c1) (pts n).length (ints (pts n)), own 4 1 (.slice A 256 c) 256 (bls l), blk g2 24 (sc s), blk g1 24 (sc n)] [])
        (fun i => (pts n).length - i) 0 ⟨rfl, trivial⟩ ⟨by omega, H⟩ ?_
      clear H
      rintro i u3 w11 ⟨hi, H⟩
      refine len_sl Try.underlying32 ?_
      refine cond_split (fun h => ?_) (fun h => ?_)
      · have hi4 : i < (pts n).length := by have := of_decide_eq_true h; omega
        obtain ⟨ga, rfl⟩ := H.ownA 0 rfl (by omega)
        obtain ⟨gb, rfl⟩ := H.ownA 1 rfl (by omega)
        refine draw_mix (fun w' => Hp w (fun _ => False) w' [own 3 1 (.slice (some ⟨ga, 0, none⟩) (pts n).length c2) (pts n).length (ints (pts n)), own 3 1 (.slice (some ⟨gb, 0, none⟩) (pts n).length c1) (pts n).length (ints (pts n)), own 4 1 (.slice A 256 c) 256 (bls l), blk g2 24 (sc s), blk g1 24 (sc n)] []) fol (by kernel_rfl) (H.same (Keeps.drew _)) ?_
        refine quiet (.pointer (some ⟨gb, i, none⟩)) (fun w _ => idxAddr_sl Try.underlying32 size3 i rfl hi4 (o' := i) (by omega) ⟨rfl, rfl⟩) ?_
        refine quiet (.int .i64 ((pts n)[i] : Int)) (fun w H => H.loadOwn 1 rfl agg3 (ints_get hi4) ⟨rfl, rfl⟩) ?_
        refine quiet (.pointer (some ⟨ga, i, none⟩)) (fun w _ => idxAddr_sl Try.underlying32 size3 i rfl hi4 (o' := i) (by omega) ⟨rfl, rfl⟩) ?_
        refine quiet (.int .i64 ((pts n)[i] : Int)) (fun w H => H.loadOwn 0 rfl agg3 (ints_get hi4) ⟨rfl, rfl⟩) ?_
        refine cond_no (by simp) ?_
        refine ⟨i + 1, by omega, ⟨up (by omega), trivial⟩, by omega, H.same (Keeps.drew _)⟩
      · refine draw_mix (fun w' => Hp w (fun _ => False) w' [own 3 1 (.slice A2 (pts n).length c2) (pts n).length (ints (pts n)), own 3 1 (.slice A1 (pts n).length c1) (pts n).length (ints (pts n)), own 4 1 (.slice A 256 c) 256 (bls l), blk g2 24 (sc s), blk g1 24 (sc n)] []) fol (by kernel_rfl) (H.same (Keeps.drew _)) ?_
        have H := (H.same (Keeps.drew _))
        refine quiet (sv n) (fun w H => H.loadAll 4 rfl agg24 size24 ⟨rfl, rfl⟩) ?_
        refine call_fn (c44 n p _) ?_
        rintro v w12 ⟨rfl, hk⟩
        have H := H.same hk
        refine ⟨.inl H, ?_⟩
        refine quiet (sv n) (fun w H => H.loadAll 4 rfl agg24 size24 ⟨rfl, rfl⟩) ?_
        refine call_fn (c45 n p _) ?_
        rintro v w13 ⟨rfl, hk⟩
        have H := H.same hk
        refine ⟨.inl H, ?_⟩
        refine quiet (.bool (hasI n p == hasI n p)) (fun w _ => bin_eql_bool Try.underlying4 ⟨rfl, rfl⟩) ?_
        repeat refine cond_yes (beq_self_eq_true _) ?_
        refine quiet (sv n) (fun w H => H.loadAll 4 rfl agg24 size24 ⟨rfl, rfl⟩) ?_
        repeat refine cond_yes (beq_self_eq_true _) ?_
        refine call_fn (c46 n p _) ?_
        rintro v w14 ⟨rfl, hk⟩
        have H := H.same hk
        refine ⟨.inl H, ?_⟩
        repeat refine cond_yes (beq_self_eq_true _) ?_
        refine call_fn (c38 l hll A c _ (own_Sl (H.get 2 rfl))) ?_
        rintro v w15 ⟨rfl, hk⟩
        have H := H.same hk
        refine ⟨.inl H, ?_⟩
        rw [hl]
        repeat refine cond_yes (beq_self_eq_true _) ?_
        refine quiet (.bool (withI n p == withI n p)) (fun w _ => bin_eql24 (withI_lt hn p) (withI_lt hn p) ⟨rfl, rfl⟩) ?_
        repeat refine cond_yes (beq_self_eq_true _) ?_
        refine call_fn (c47 _) ?_
        rintro v w16 ⟨rfl, hk⟩
        have H := H.same hk
        refine ⟨.inl H, ?_⟩
        repeat refine cond_yes (beq_self_eq_true _) ?_
        exact ⟨rfl, H.keeps⟩

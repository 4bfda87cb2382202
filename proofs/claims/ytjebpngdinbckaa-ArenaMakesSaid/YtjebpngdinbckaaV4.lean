import Derived.Test.YtjebpngdinbckaaV3
/- Arenas: Make, a new node. -/
namespace Go.Proofs.Ytjebpngdinbckaa
open Go.Dk
attribute [local irreducible] IntKind.wrap

theorem _root_.Go.Dk.Hp.drawC {P : Program} {w0 w : World} {F : Nat → Prop} {L M : List Res} {N : Nat} {ops : Array Oper} {K : Fr → World → Prop} {f : Fr} (H : Hp w0 F w L M) (L' : List Res) (hsub : ∀ u, Hp w0 F u L M → Hp w0 F u L' M) (hf : P.follows .mixedOrders = true)
    (hB : (Region.noSelect ops && mixB ops) = true) (h : ∀ w', Hp w0 F w' L M → mixK P N (fun u => Hp w0 F u L' M) ops K 0 ops.toList f w') : drawK P N ops K f w :=
  draw_mix (fun u => Hp w0 F u L' M) hf hB (hsub _ (H.same (Keeps.drew _))) (h _ (H.same (Keeps.drew _)))
theorem add2 {k : Nat} (hk : k < 9223372036854775000) : IntKind.i64.wrap ((k : Int) + 2) = ((k + 2 : Nat) : Int) := by rw [wrap_i64_in (by omega) (by omega)]; omega
theorem c68_n {g r : Nat} {sv : Value} {room : Int} {A : Ar} (n : Nd) (hlo : (n.lo : Int) < 9223372036854775808) (hhi : (n.hi : Int) < 9223372036854775808) (h1 : (n.l : Int) < lvlA A n.lo) (h2 : (n.l : Int) < lvlA A n.hi) (hf : findA A n = none) (hfull : (liveA A : Int) < room) (hok : ArOk room A) (w : World) (h : (arR g r sv room A).ok w) :
    Fun Try.prog 68 [.pointer (some ⟨g, 0, none⟩), .int .i64 n.l, .int .i64 n.lo, .int .i64 n.hi] w fun v w' => ∃ sv', v = .tuple #[.int .i64 ((freeA A + 2 : Nat) : Int), .int .i64 0] ∧ Turn w w' (arR g r sv room A) (arR g r sv' room (putA A n)) := by
  refine fun_of_W (N := 112) Try.func68 ent68 rfl rfl rfl (by simp) ?_
  have h' := h
  obtain ⟨N, B, c, l, rfl, rfl, hl, hnd, H⟩ := arR_own h'
  have hg : aget l n = none := by rw [hl.get, hf]; rfl
  have hlen := hl.len
  clear h'
  refine bin_eql59 ?_
  iterate 6 refine cond_no rfl ?_
  refine call_fn (c166 _ hlo _ h) ?_
  rintro _ w10 ⟨rfl, hk⟩
  replace h := arR_same h hk
  replace H := H.same hk
  clear hk
  iterate 3 refine cond_no rfl ?_
  iterate 3 refine cond_no (decide_eq_false (by omega)) ?_
  refine call_fn (c166 _ hhi _ h) ?_
  rintro _ w17 ⟨rfl, hk⟩
  replace h := arR_same h hk
  replace H := H.same hk
  clear hk
  iterate 4 refine cond_no (decide_eq_false (by omega)) ?_
  refine build202 ?_
  refine H.alloc 202 zero202 rfl ?_
  clear H
  intro g23 w23 H
  refine H.storeAll 0 rfl size202 rfl (fun v hv => encS_one (.inl n) v hv) ?_
  clear H
  intro w24 H
  refine H.draw fol (by kernel_rfl) ?_
  clear H
  intro w25 H
  refine quiet _ (fun w H => fieldAddr_by (fa199_2 _) ⟨rfl, rfl⟩) ?_
  refine quiet _ (fun w H => H.load 1 rfl agg196 rfl ⟨rfl, rfl⟩) ?_
  refine quiet _ (fun w H => H.loadAll 0 rfl agg202 size202 ⟨rfl, rfl⟩) ?_
  refine quiet _ (fun w H => lookup_miss (H.get 3 rfl) W196 n hg ⟨rfl, rfl⟩) ?_
  refine cond_no rfl ?_
  refine H.draw fol (by kernel_rfl) ?_
  clear H
  intro w31 H
  refine quiet _ (fun w H => fieldAddr_by (fa199_2 _) ⟨rfl, rfl⟩) ?_
  refine quiet _ (fun w H => H.load 1 rfl agg196 rfl ⟨rfl, rfl⟩) ?_
  refine quiet _ (fun w H => lenMap_at (H.get 3 rfl) W196 ⟨rfl, rfl⟩) ?_
  refine quiet _ (fun w H => fieldAddr_by (fa199_0 _) ⟨rfl, rfl⟩) ?_
  refine quiet _ (fun w H => H.load 1 rfl agg3 rfl ⟨rfl, rfl⟩) ?_
  refine cond_no (decide_eq_false (by omega)) ?_
  have hfl := freeA_le (ars N)
  rw [ars_length] at hfl
  have hN2 : N.length ≤ 20000 := by have h3 := hok.len; have h4 := hok.room; rw [ars_length] at h3; omega
  have hwi : IntKind.i64.wrap ((freeA (ars N) : Int) + 2) = ((freeA (ars N) + 2 : Nat) : Int) := add2 (by omega)
  refine loop_rule (γ := Nat) _ rfl (fun i => [(13, .int .i64 (i : Int))]) (fun i w' => i ≤ freeA (ars N) ∧ H.cl w') (fun i => freeA (ars N) - i) 0 ⟨rfl, trivial⟩ ⟨Nat.zero_le _, H⟩ ?_
  rintro i u w8 ⟨hi, H2⟩
  have H : Hp _ _ _ _ _ := H2
  rcases Nat.lt_or_ge i (freeA (ars N)) with hin | hin
  · obtain ⟨m, hm⟩ := slot_before hin
    have hk' : i < N.length := by omega
    obtain ⟨g0, rfl⟩ := own_base (H.get 2 rfl) (by omega)
    obtain ⟨s, hs'⟩ : ∃ s, N[i]? = some s := ⟨_, List.getElem?_eq_getElem hk'⟩
    have hs2 := slot_ars hs'
    rw [hm] at hs2
    cases s with
    | inr p => cases hs2
    | inl n' =>
      cases hs2
      refine fieldAddr_by (fa199_1 _) ?_
      refine H.load 1 rfl agg197 rfl ?_
      refine len_sl Try.underlying197 ?_
      iterate 3 refine cond_yes (decide_eq_true (by omega)) ?_
      refine fieldAddr_by (fa199_1 _) ?_
      refine cond_yes (decide_eq_true (by omega)) ?_
      refine H.load 1 rfl agg197 rfl ?_
      iterate 2 refine cond_yes (decide_eq_true (by omega)) ?_
      refine idxAddr_sl Try.underlying197 size202 i rfl hk' (o' := i * 3) (by omega) ?_
      refine cond_yes (decide_eq_true (by omega)) ?_
      refine fieldAddr_by (fa202_0 _ _) ?_
      refine cond_yes (decide_eq_true (by omega)) ?_
      refine ld_fld (H.get 2 rfl) encS_length agg3 i 0 rfl hs' rfl ?_
      iterate 2 refine cond_yes (decide_eq_true (by omega)) ?_
      refine cond_yes rfl ?_
      exact ⟨i + 1, by omega, ⟨up (by omega), trivial⟩, by omega, H2⟩
  · obtain rfl : i = freeA (ars N) := by omega
    by_cases hend : freeA (ars N) = N.length
    · refine fieldAddr_by (fa199_1 _) ?_
      refine H.load 1 rfl agg197 rfl ?_
      refine len_sl Try.underlying197 ?_
      iterate 10 refine cond_no (decide_eq_false (by omega)) ?_
      refine cond_no rfl ?_
      refine fieldAddr_by (fa199_1 _) ?_
      refine H.load 1 rfl agg197 rfl ?_
      refine len_sl Try.underlying197 ?_
      refine cond_yes (beq_iff_eq.2 (by omega)) ?_
      refine H.drawC [blk g23 202 #[.int .i64 n.l, .int .i64 n.lo, .int .i64 n.hi], blk g 199 (arV B N.length c room r), mapR kaN vbN r l] (fun u H => (H.front 2 rfl).forget) fol (by kernel_rfl) ?_
      clear H
      intro w27 H
      refine quiet _ (fun w H => fieldAddr_by (fa199_1 _) ⟨rfl, rfl⟩) ?_
      refine quiet _ (fun w H => H.load 1 rfl agg197 rfl ⟨rfl, rfl⟩) ?_
      refine quiet _ (fun w H => H.loadAll 0 rfl agg202 size202 ⟨rfl, rfl⟩) ?_
      refine H.buildSl T197 (cs := (encS (.inl n)).toArray) (by decide) (by decide) (by kernel_rfl) ?_
      clear H
      intro g28 w28 H
      refine ⟨.inl ((H.forget).front 2 rfl).forget, ?_⟩
      refine H.appendBlk 3 0 T197 rfl rfl rfl (fun v hv => encS_one (.inl n) v hv) (by omega) (by omega) ?_
      intro A29 d29 w29 H
      refine ⟨.inl ((H.forget).front 2 rfl).forget, ?_⟩
      refine quiet _ (fun w H => fieldAddr_by (fa199_1 _) ⟨rfl, rfl⟩) ?_
      refine H.store 2 rfl size197 (Nat.le_of_ble_eq_true rfl) rfl ?_
      clear H
      intro w4 H
      refine ⟨.inr rfl, ?_⟩
      refine H.draw fol (by kernel_rfl) ?_
      clear H
      intro w6 H
      refine quiet _ (fun w H => fieldAddr_by (fa199_2 _) ⟨rfl, rfl⟩) ?_
      refine quiet _ (fun w H => H.load 2 rfl agg196 rfl ⟨rfl, rfl⟩) ?_
      refine quiet _ (fun w H => H.loadAll 1 rfl agg202 size202 ⟨rfl, rfl⟩) ?_
      refine mapSet_by (congrArg _ hwi) (H.mapSet 4 rfl W196 n (freeA (ars N) + 2) ?_)
      clear H
      intro w7 H
      refine ⟨.inr rfl, ?_⟩
      have H : Hp w (arR g r (.slice B N.length c) room (ars N)).foot w7 (blk g 199 (arV A29 (N.length + 1) d29 room r) :: own 202 3 (.slice A29 (N.length + 1) d29) (N.length + 1) (flat encS N ++ encS (.inl n)) :: mapR kaN vbN r (aset l n (freeA (ars N) + 2)) :: []) [] := H.forget.forget
      rw [← flat_snoc] at H
      have e : ars (N ++ [.inl n]) = putA (ars N) n := by
        rw [ars_snoc, putA, ars_length, if_pos hend]; rfl
      have H := arR_close H (by simp) (by rw [e]; exact ids_put hl hok.inv.uniq hf)
      rw [e] at H
      exact ⟨_, congrArg (fun z => Value.tuple #[.int .i64 z, .int .i64 0]) hwi, H.outTurn⟩
    · have hk' : freeA (ars N) < N.length := by omega
      obtain ⟨g0, rfl⟩ := own_base (H.get 2 rfl) (by omega)
      obtain ⟨s, hs'⟩ : ∃ s, N[freeA (ars N)]? = some s := ⟨_, List.getElem?_eq_getElem hk'⟩
      have hs2 := slot_ars hs'
      rw [slot_free] at hs2
      cases s with
      | inl n' => cases hs2
      | inr p =>
        refine fieldAddr_by (fa199_1 _) ?_
        refine H.load 1 rfl agg197 rfl ?_
        refine len_sl Try.underlying197 ?_
        iterate 3 refine cond_yes (decide_eq_true (by omega)) ?_
        refine fieldAddr_by (fa199_1 _) ?_
        refine cond_yes (decide_eq_true (by omega)) ?_
        refine H.load 1 rfl agg197 rfl ?_
        iterate 2 refine cond_yes (decide_eq_true (by omega)) ?_
        refine idxAddr_sl Try.underlying197 size202 (freeA (ars N)) rfl hk' (o' := freeA (ars N) * 3) (by omega) ?_
        refine cond_yes (decide_eq_true (by omega)) ?_
        refine fieldAddr_by (fa202_0 _ _) ?_
        refine cond_yes (decide_eq_true (by omega)) ?_
        refine ld_fld (H.get 2 rfl) encS_length agg3 (freeA (ars N)) 0 rfl hs' rfl ?_
        iterate 2 refine cond_yes (decide_eq_true (by omega)) ?_
        refine cond_no rfl ?_
        refine fieldAddr_by (fa199_1 _) ?_
        refine H.load 1 rfl agg197 rfl ?_
        refine len_sl Try.underlying197 ?_
        refine cond_no (beq_eq_false_iff_ne.2 (by omega)) ?_
        refine H.draw fol (by kernel_rfl) ?_
        clear H
        intro w33 H
        refine quiet _ (fun w H => fieldAddr_by (fa199_1 _) ⟨rfl, rfl⟩) ?_
        refine quiet _ (fun w H => H.load 1 rfl agg197 rfl ⟨rfl, rfl⟩) ?_
        refine quiet _ (fun w H => H.loadAll 0 rfl agg202 size202 ⟨rfl, rfl⟩) ?_
        refine quiet _ (fun w H => idxAddr_sl Try.underlying197 size202 (freeA (ars N)) rfl hk' (o' := freeA (ars N) * 3) (by omega) ⟨rfl, rfl⟩) ?_
        refine H.storeOwnAgg 2 (.inl n) rfl encS_length size202 (freeA (ars N)) rfl hk' rfl (encS_one _) ?_
        clear H
        intro w34 H
        refine ⟨.inr rfl, ?_⟩
        refine H.draw fol (by kernel_rfl) ?_
        clear H
        intro w35 H
        refine quiet _ (fun w H => fieldAddr_by (fa199_2 _) ⟨rfl, rfl⟩) ?_
        refine quiet _ (fun w H => H.load 1 rfl agg196 rfl ⟨rfl, rfl⟩) ?_
        refine quiet _ (fun w H => H.loadAll 0 rfl agg202 size202 ⟨rfl, rfl⟩) ?_
        refine mapSet_by (congrArg _ hwi) (H.mapSet 3 rfl W196 n (freeA (ars N) + 2) ?_)
        clear H
        intro w6 H
        refine ⟨.inr rfl, ?_⟩
        have H : Hp w (arR g r (.slice (some ⟨g0, 0, none⟩) N.length c) room (ars N)).foot w6 (blk g 199 (arV (some ⟨g0, 0, none⟩) N.length c room r) :: own 202 3 (.slice (some ⟨g0, 0, none⟩) N.length c) N.length (flat encS (N.set (freeA (ars N)) (.inl n))) :: mapR kaN vbN r (aset l n (freeA (ars N) + 2)) :: []) [] := H.forget
        have e : ars (N.set (freeA (ars N)) (.inl n)) = putA (ars N) n := by
          rw [ars_set, putA, ars_length, if_neg hend]; rfl
        have H := arR_close H (by rw [List.length_set]) (by rw [e]; exact ids_put hl hok.inv.uniq hf)
        rw [e] at H
        exact ⟨_, congrArg (fun z => Value.tuple #[.int .i64 z, .int .i64 0]) hwi, H.outTurn⟩
theorem liveA_le (A : Ar) : liveA A ≤ A.length := List.countP_le_length
theorem liveA_full {A : Ar} (h : freeA A = A.length) : liveA A = A.length := by
  unfold liveA
  rw [List.countP_eq_length]
  intro x hx
  obtain ⟨i, hi⟩ := List.mem_iff_getElem?.1 hx
  have hl := (List.getElem?_eq_some_iff.1 hi).1
  obtain ⟨n, hn⟩ := slot_before (A := A) (i := i) (by omega)
  rw [slot_get hl, hn] at hi
  injection hi with hi
  rw [← hi]; rfl
theorem ok_put {room : Int} {A : Ar} (hok : ArOk room A) {n : Nd} (hf : findA A n = none) (h1 : (n.l : Int) < lvlA A n.lo) (h2 : (n.l : Int) < lvlA A n.hi) (hfull : (liveA A : Int) < room) : ArOk room (putA A n) := by
  refine ⟨inv_put hok.inv hf h1 h2, ?_, hok.room⟩
  rw [putA_length]
  split
  · rename_i h; rw [liveA_full h] at hfull; omega
  · exact hok.len
/-- What Make does. -/
theorem ok_mk {room : Int} {A : Ar} (hok : ArOk room A) (l lo hi : Int) : ArOk room (mkA room A l lo hi).1 := by
  unfold mkA
  split
  · exact hok
  · rename_i h
    rw [not_or, not_or] at h
    have hlo := lvlA_nonneg (A := A) (id := lo) (by omega)
    have hhi := lvlA_nonneg (A := A) (id := hi) (by omega)
    split
    · exact hok
    · rename_i hf
      split
      · exact hok
      · rename_i hr
        refine ok_put hok hf ?_ ?_ (by omega)
        · show ((l.toNat : Nat) : Int) < lvlA A ((lo.toNat : Nat) : Int)
          rw [Int.toNat_of_nonneg (by omega), Int.toNat_of_nonneg hlo]; omega
        · show ((l.toNat : Nat) : Int) < lvlA A ((hi.toNat : Nat) : Int)
          rw [Int.toNat_of_nonneg (by omega), Int.toNat_of_nonneg hhi]; omega
theorem c68 {g r : Nat} {sv : Value} {room : Int} {A : Ar} (l lo hi : Int) (hl : l < 9223372036854775808) (hlo : lo < 9223372036854775808) (hhi : hi < 9223372036854775808) (hok : ArOk room A) (w : World) (h : (arR g r sv room A).ok w) :
    Fun Try.prog 68 [.pointer (some ⟨g, 0, none⟩), .int .i64 l, .int .i64 lo, .int .i64 hi] w fun v w' =>
      ∃ sv', v = .tuple #[.int .i64 (mkA room A l lo hi).2.1, .int .i64 (mkA room A l lo hi).2.2] ∧ Turn w w' (arR g r sv room A) (arR g r sv' room (mkA room A l lo hi).1) := by
  unfold mkA
  split
  · rename_i hb
    refine (c68_b l lo hi hlo hhi hb w h).mono ?_
    rintro v w' ⟨rfl, hk⟩
    exact ⟨sv, rfl, arR_turn h hk⟩
  · rename_i hb
    rw [not_or, not_or] at hb
    have hl0 := lvlA_nonneg (A := A) (id := lo) (by omega)
    have hh0 := lvlA_nonneg (A := A) (id := hi) (by omega)
    obtain ⟨a, rfl⟩ := Int.eq_ofNat_of_zero_le (show 0 ≤ l by omega)
    obtain ⟨b, rfl⟩ := Int.eq_ofNat_of_zero_le hl0
    obtain ⟨c, rfl⟩ := Int.eq_ofNat_of_zero_le hh0
    simp only [Int.toNat_natCast]
    split
    · rename_i i hf
      refine (c68_f ⟨a, b, c⟩ hlo hhi (by show (a : Int) < lvlA A (b : Int); omega) (by show (a : Int) < lvlA A (c : Int); omega) i hf w h).mono ?_
      rintro v w' ⟨rfl, hk⟩
      exact ⟨sv, rfl, arR_turn h hk⟩
    · rename_i hf
      split
      · rename_i hr
        refine (c68_r ⟨a, b, c⟩ hlo hhi (by show (a : Int) < lvlA A (b : Int); omega) (by show (a : Int) < lvlA A (c : Int); omega) hf hr w h).mono ?_
        rintro v w' ⟨rfl, hk⟩
        exact ⟨sv, rfl, arR_turn h hk⟩
      · rename_i hr
        exact c68_n ⟨a, b, c⟩ hlo hhi (by show (a : Int) < lvlA A (b : Int); omega) (by show (a : Int) < lvlA A (c : Int); omega) hf (by omega) hok w h

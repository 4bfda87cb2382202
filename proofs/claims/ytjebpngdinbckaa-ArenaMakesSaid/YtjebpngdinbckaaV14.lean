import Derived.Test.YtjebpngdinbckaaV13
/- ArenaMakes. -/
namespace Go.Proofs.Ytjebpngdinbckaa
open Go.Dk
attribute [local irreducible] IntKind.wrap

theorem upj {j : Nat} (h : j ≤ 1000000) : Value.int .i64 (IntKind.i64.wrap ((j : Int) + 2 + 1)) = .int .i64 (((j + 1 : Nat) : Int) + 2) :=
  congrArg (Value.int .i64) (by rw [IntKind.wrap_i64]; omega)
theorem blk_Sl1 {w : World} {g : Nat} {t : TypeId} {v : Value} (h : (blk g t #[v]).ok w) (hg : g < w.heap.size) : Sl w (.slice (some ⟨g, 0, none⟩) 1 1) 1 1 [v] := by
  refine ⟨rfl, _, 1, rfl, Nat.le_refl _, .inr ⟨g, 0, rfl, hg, fun j hj => ?_⟩⟩
  obtain rfl : j = 0 := by omega
  rw [Nat.zero_add, blk_cell h]; rfl
theorem reach_spec {A : Ar} (h : ArInv A) (id : Int) (x : Nat) : mb (markA A 26 id (List.replicate A.length false)) x = true ↔ Rch A id x := by
  have hs := mark_spec h 26 id (List.replicate A.length false) (by have := lvlA_ge A id; omega) (by simp) (fun i n hi => by rw [mb_replicate] at hi; cases hi)
  rw [hs x, mb_replicate]; simp
theorem reachTo_pre (met : List Bool) (j : Nat) : ∀ n, j ≤ n → ∃ t, reachTo met n = reachTo met j ++ t := by
  intro n hn
  induction n with
  | zero => obtain rfl : j = 0 := by omega
            exact ⟨[], by simp⟩
  | succ n ih =>
    by_cases hj : j ≤ n
    · obtain ⟨t, ht⟩ := ih hj
      rw [reachTo_succ]
      split
      · exact ⟨t ++ [n + 2], by rw [ht, List.append_assoc]⟩
      · exact ⟨t, ht⟩
    · obtain rfl : j = n + 1 := by omega
      exact ⟨[], by simp⟩
theorem reach_at {met : List Bool} {j n : Nat} (h : j < n) (hm : mb met j = true) : (reachTo met n)[(reachTo met j).length]? = some (j + 2) := by
  obtain ⟨t, ht⟩ := reachTo_pre met (j + 1) n h
  rw [ht, reachTo_succ, if_pos hm, List.append_assoc, List.getElem?_append_right (Nat.le_refl _)]
  simp
theorem ent9 : enters Try.prog 9 = true := by kernel_rfl
theorem law9_b (room : Int) (hr : room < 0 ∨ 20000 < room) (v1 : Value) (id : Int) (w : World) : Fun Try.prog 9 [.int .i64 room, v1, .int .i64 id] w fun v w' => v = .bool true ∧ Same w w' := by
  refine fun_of_W (N := 213) Try.func9 ent9 rfl rfl rfl (by simp) ?_
  have H := Hp.start0 w
  refine call_fn (c64_b _ (by assumption) _) ?_
  rintro _ w1 ⟨rfl, hk⟩
  replace H := H.same hk
  clear hk
  refine cond_dec (fun h2 => ?_) (fun h2 => ?_)
  · refine cond_yes (decide_eq_true (by assumption)) ?_
    refine cond_yes (decide_eq_true (by assumption)) ?_
    refine cond_yes rfl ?_
    refine bin_eql59z ?_
    iterate 4 refine cond_yes rfl ?_
    refine call_fn (c65 _) ?_ 
    rintro _ w11 ⟨rfl, hk⟩ 
    replace H := H.same hk 
    clear hk
    refine cond_yes rfl ?_
    exact ⟨rfl, H.keeps⟩
  · refine cond_no (decide_eq_false (by assumption)) ?_
    refine cond_no (decide_eq_false (by assumption)) ?_
    refine cond_yes (decide_eq_true (by omega)) ?_
    refine bin_eql59z ?_
    iterate 4 refine cond_yes rfl ?_
    refine call_fn (c65 _) ?_ 
    rintro _ w22 ⟨rfl, hk⟩ 
    replace H := H.same hk 
    clear hk
    refine cond_yes rfl ?_
    exact ⟨rfl, H.keeps⟩
theorem agg66 : aggT Try.prog 66 = some true := by kernel_rfl
theorem agg32 : aggT Try.prog 32 = some false := by kernel_rfl
def z66 : Value := .agg #[.int .i64 0, .int .i64 0, .int .i64 0, .int .i64 0, .slice none 0 0]
theorem zero66 : zeroT Try.prog 66 = some z66 := by kernel_rfl
theorem encA_one {w : World} {a : AskV} (h : AskAt w a) : ∀ v ∈ encA a, v.oneCell' = true := by
  obtain ⟨_, _, _, _, ks, B, c, hv, _⟩ := h
  intro v hm
  simp [encA] at hm
  rcases hm with rfl | rfl | rfl | rfl | rfl
  · rfl
  · rfl
  · rfl
  · rfl
  · rw [hv]; rfl
theorem law9_m (room : Int) (h0 : 0 ≤ room) (h1 : room ≤ 20000) (la : List AskV) (B1 : Option Addr) (c1 : Nat) (id : Int) (hid : okI id) (w : World)
    (hla : ∀ a ∈ la, AskAt w a) (hs1 : Sl w (.slice B1 la.length c1) 5 la.length (flat encA la)) : Fun Try.prog 9 [.int .i64 room, .slice B1 la.length c1, .int .i64 id] w fun v w' => v = .bool true ∧ Same w w' := by
  refine fun_of_W (N := 213) Try.func9 ent9 rfl rfl rfl (by simp) ?_
  have H := Hp.start0 w
  refine call_fn (c64_a _ h0 h1 _) ?_
  rintro _ w2 ⟨g, r, rfl, hn⟩
  replace H := H.addNew hn
  clear hn
  repeat refine cond_no (decide_eq_false (by omega)) ?_
  refine bin_eql59 ?_
  repeat refine cond_no rfl ?_
  refine cut_rule (γ := Nat) _ rfl (fun g9 => [(9, .pointer (some ⟨g9, 0, none⟩))]) (fun g9 w' => Hp w (fun _ => False) w' [blk g9 64 (rc room (.slice none 0 0)), arR g r (.slice none 0 0) room []] []) ?_ ?_
  · refine build64a ?_
    refine H.alloc 64 zero64 rfl ?_
    clear H
    intro g4 w4 H
    refine H.storeAll 0 rfl size64 rfl (fun v hv => rc_one v hv) ?_ 
    clear H 
    intro w5 H
    exact ⟨_, ⟨rfl, trivial⟩, H⟩
  · clear H
    rintro g9 u w3 H
    replace H : Hp _ _ _ _ _ := H
    replace H := (H.ownNil 78 4).front 1 rfl
    refine cut_rule (γ := Value × List RN × Option Addr × Nat) _ rfl (fun _ => []) (fun (sv, N, B, c) w' => ArOk room (ab N) ∧ Hp w (fun _ => False) w' [blk g9 64 (rc room (.slice B N.length c)), own 78 4 (.slice B N.length c) N.length (flat encN N), arR g r sv room (ab N)] []) ?_ ?_
    · refine loop_rule (γ := Nat × Value × List RN × Option Addr × Nat) _ rfl (fun (i, _) => [(10, .int .i64 (i : Int))])
        (fun (i, sv, N, B, c) w' => (i ≤ 60 ∧ ArOk room (ab N)) ∧ Hp w (fun _ => False) w' [blk g9 64 (rc room (.slice B N.length c)), own 78 4 (.slice B N.length c) N.length (flat encN N), arR g r sv room (ab N)] []) (fun (i, _) => 60 - i) (0, .slice none 0 0, [], none, 0) ⟨rfl, trivial⟩ ⟨⟨Nat.zero_le _, ok_nil h0 h1⟩, H⟩ ?_
      clear H
      rintro ⟨i, sv, N, B, c⟩ u w4 ⟨⟨hi, hok⟩, H⟩
      replace H : Hp _ _ _ _ _ := H
      refine len_sl Try.underlying58 ?_
      by_cases hgo : i < la.length ∧ i < 60
      · obtain ⟨g1, o1, rfl⟩ := hs1.A (by omega)
        obtain ⟨a, ha⟩ : ∃ a, la[i]? = some a := ⟨_, List.getElem?_eq_getElem hgo.1⟩
        have haa := hla a (List.mem_of_getElem? ha)
        obtain ⟨kd, kl, klo, khi, ks, hks⟩ := hla a (List.mem_of_getElem? ha)
        obtain ⟨Bk, ck, hkv, hkl, hkk, hsk⟩ := hks
        obtain ⟨akd, al, alo, ahi, akv⟩ := a
        simp only at hkv kd kl klo khi
        subst hkv
        have hN2 : N.length ≤ 20000 := by have h3 := hok.len; have h4 := hok.room; rw [ab_length] at h3; omega
        iterate 4 refine cond_yes (decide_eq_true (by omega)) ?_
        refine idxAddr_sl Try.underlying58 size66 i rfl hgo.1 (o' := o1 + i * 5) rfl ?_
        refine Sl.loadAgg H hs1 encA_length agg66 size66 i rfl ha ?_
        refine H.alloc 66 zero66 rfl ?_
        clear H
        intro g11 w5 H
        refine H.storeAll 0 rfl size66 rfl (fun v hv => encA_one haa v hv) ?_
        clear H
        intro w6 H
        refine fieldAddr_by (fa66_4 _ _) ?_
        refine H.load 0 rfl agg32 rfl ?_
        refine len_sl Try.underlying32 ?_
        refine cond_dec (fun hk20 => ?_) (fun hk20 => ?_)
        · refine call_fn (c65 _) ?_ 
          rintro _ w7 ⟨rfl, hk⟩ 
          replace H := H.same hk 
          clear hk
          exact ⟨rfl, H.keeps⟩
        · refine cut_rule (γ := Value × List RN × Option Addr × Nat) _ rfl (fun _ => []) (fun (sv, N, B, c) w' => ArOk room (ab N) ∧ Hp w (fun _ => False) w' [blk g9 64 (rc room (.slice B N.length c)), own 78 4 (.slice B N.length c) N.length (flat encN N), arR g r sv room (ab N)] []) ?_ ?_
          · refine fieldAddr_by (fa66_0 _ _) ?_
            refine H.load 0 rfl agg3 rfl ?_
            refine cond_beq (fun h10 => ?_) (fun h10 => ?_)
            · refine fieldAddr_by (fa66_4 _ _) ?_
              refine H.load 0 rfl agg32 rfl ?_
              refine call_fn (c66 hok ks (fun k hk => (hkk k hk).2) (by omega) (S := fun x => x < w.heap.size) _ (H.get 3 rfl) ((sl _ _ _ _ _).stable w _ (fun x hx => H.keeps.old x hx (fun h => h)) hsk) (fun x hx => Nat.lt_of_lt_of_le hx H.keeps.size)
                (fun x hx hf => by rcases H.new _ (.tail _ (.tail _ (.tail _ (.head _)))) x hf with h | h; · omega
                                   · exact h)) ?_
              rintro _ w7 ⟨rfl, ht⟩
              replace H := H.turnBy 3 rfl ht
              clear ht
              refine H.loadAll 1 rfl agg64 size64 ?_
              refine fieldAddr_by (fa66_4 _ _) ?_
              refine H.load 0 rfl agg32 rfl ?_
              refine call_fn (c67 room N B c ks Bk ck _ (by omega) (by omega) (own_Sl (H.get 2 rfl)) (hsk.same H.keeps) hok.inv) ?_
              rintro _ w8 ⟨N', B', c', hab, rfl, hn⟩
              replace H := H.addNew hn
              clear hn
              refine H.storeAll 2 rfl size64 rfl (fun v hv => rc_one v hv) ?_
              clear H
              intro w9 H
              have hok' := ok_sweep hok ks
              rw [← hab] at hok' H
              exact ⟨(sv, N', B', c'), trivial, hok', ((H.front 3 rfl).forget.front 1 rfl).forget.front 1 rfl⟩
            · refine fieldAddr_by (fa66_1 _ _) ?_
              refine H.load 0 rfl agg3 rfl ?_
              refine fieldAddr_by (fa66_2 _ _) ?_
              refine H.load 0 rfl agg3 rfl ?_
              refine fieldAddr_by (fa66_3 _ _) ?_
              refine H.load 0 rfl agg3 rfl ?_
              refine call_fn (c68 al alo ahi kl.2 klo.2 khi.2 hok _ (H.get 3 rfl)) ?_
              rintro _ w7 ⟨sv1, rfl, ht⟩
              replace H := H.turnBy 3 rfl ht
              clear ht
              refine H.loadAll 1 rfl agg64 size64 ?_
              refine fieldAddr_by (fa66_1 _ _) ?_
              refine H.load 0 rfl agg3 rfl ?_
              refine fieldAddr_by (fa66_2 _ _) ?_
              refine H.load 0 rfl agg3 rfl ?_
              refine fieldAddr_by (fa66_3 _ _) ?_
              refine H.load 0 rfl agg3 rfl ?_
              refine call_fn (c69 room N B c al alo ahi _ (by omega) (own_Sl (H.get 2 rfl)) hok.inv) ?_
              rintro _ w8 ⟨N', B', c', hab, rfl, hn⟩
              have H' : Hp w (fun _ => False) w8 [blk g11 66 (encA ⟨akd, al, alo, ahi, .slice Bk ks.length ck⟩).toArray, blk g9 64 (rc room (.slice B N.length c)), own 78 4 (.slice B' N'.length c') N'.length (flat encN N'), arR g r sv1 room (mkA room (ab N) al alo ahi).1] [] := by
                rcases hn with ⟨rfl, rfl, rfl, hk⟩ | hn
                · exact H.same hk
                · exact ((((H.addNew hn).front 3 rfl).forget.front 2 rfl).front 2 rfl)
              replace H := H'
              clear H' hn
              have hok' := ok_mk hok al alo ahi
              rw [← hab] at hok' H
              refine H.alloc 64 zero64 rfl ?_ 
              clear H 
              intro g14 w9 H
              refine H.storeAll 0 rfl size64 rfl (fun v hv => rc_one v hv) ?_ 
              clear H 
              intro w10 H
              refine H.loadAll 0 rfl agg64 size64 ?_
              refine H.storeAll 2 rfl size64 rfl (fun v hv => rc_one v hv) ?_ 
              clear H 
              intro w11 H
              iterate 5 refine cond_no (bne_self_eq_false _) ?_
              exact ⟨(sv1, N', B', c'), trivial, hok', H.forget.forget⟩
          · clear H
            rintro ⟨sv, N, B, c⟩ u w7 ⟨hok, H⟩
            replace H : Hp _ _ _ _ _ := H
            have hN2 : N.length ≤ 20000 := by have h3 := hok.len; have h4 := hok.room; rw [ab_length] at h3; omega
            refine H.draw fol (by kernel_rfl) ?_
            clear H
            intro w8 H
            refine call_fn (c70 _ (H.get 2 rfl)) ?_ 
            rintro _ w10 ⟨rfl, hk10⟩ 
            replace H := H.same hk10 
            refine ⟨.inl H, ?_⟩
            refine quiet _ (fun w H => H.loadAll 0 rfl agg64 size64 ⟨rfl, rfl⟩) ?_
            refine call_fn (c71 room N B c _ (by omega) (own_Sl (H.get 1 rfl))) ?_ 
            rintro _ w13 ⟨rfl, hk13⟩ 
            replace H := H.same hk13 
            refine ⟨.inl H, ?_⟩
            iterate 2 refine cond_no (bne_self_eq_false _) ?_
            refine call_fn (c70 _ (H.get 2 rfl)) ?_ 
            rintro _ w16 ⟨rfl, hk16⟩ 
            replace H := H.same hk16 
            refine ⟨.inl H, ?_⟩
            iterate 3 refine cond_no (bne_self_eq_false _) ?_
            refine cond_dec (fun h20 => ?_) (fun h20 => ?_)
            · refine ⟨congrArg Value.bool ?_, H.keeps⟩
              have hlv : liveA (ab N) ≤ (ab N).length := List.countP_le_length
              have hlr := hok.len
              omega
            · exact ⟨(i + 1, sv, N, B, c), by show 60 - (i + 1) < 60 - i; omega, ⟨up (by omega), trivial⟩, ⟨by show i + 1 ≤ 60; omega, hok⟩, H⟩
      · refine cond_dec (fun h5 => ?_) (fun h5 => ?_)
        · refine cond_yes (decide_eq_true (by assumption)) ?_
          refine cond_yes (decide_eq_true (by assumption)) ?_
          refine cond_no (decide_eq_false (by omega)) ?_
          exact ⟨(sv, N, B, c), trivial, hok, H⟩
        · refine cond_no (decide_eq_false (by assumption)) ?_
          refine cond_no (decide_eq_false (by assumption)) ?_
          refine cond_no rfl ?_
          exact ⟨(sv, N, B, c), trivial, hok, H⟩
    · clear H
      rintro ⟨sv, N, B, c⟩ u w4 ⟨hok, H⟩
      replace H : Hp _ _ _ _ _ := H
      have hN2 : N.length ≤ 20000 := by have h3 := hok.len; have h4 := hok.room; rw [ab_length] at h3; omega
      refine cut_rule (γ := Unit) _ rfl (fun _ => []) (fun _ w' => Hp.cl H w') ?_ ?_
      · refine loop_rule (γ := Nat) _ rfl (fun j => [(17, .int .i64 ((j : Int) + 2))]) (fun j w' => j ≤ N.length ∧ Hp.cl H w') (fun j => N.length - j) 0 ⟨rfl, trivial⟩ ⟨Nat.zero_le _, H⟩ ?_
        rintro j u w5 ⟨hj, H1⟩
        replace H : Hp _ _ _ _ _ := H1
        refine fieldAddr_by (fa64_1 _) ?_
        refine H.load 0 rfl agg62 rfl ?_
        refine len_sl Try.underlying62 ?_
        have hw2 := wlen2 (n := N.length) (by omega)
        have hupj := upj (j := j) (by omega)
        by_cases hgo : j < N.length
        · refine cond_yes (decide_eq_true (by rw [hw2]; omega)) ?_
          obtain ⟨⟨m, d⟩, hx⟩ : ∃ y, N[j]? = some y := ⟨_, List.getElem?_eq_getElem hgo⟩
          have hsl := slot_ab hx
          obtain ⟨g6, rfl⟩ := H.ownA 1 rfl (by omega)
          cases d with
          | true =>
            replace hsl : slot (ab N) j = none := hsl
            refine call_fn (c72_b _ (by omega) (by unfold thereA; rw [show ((j : Int) + 2 - 2).toNat = j by omega, hsl]; simp) _ (H.get 2 rfl)) ?_
            rintro _ w6 ⟨rfl, hk⟩
            replace H := H.same hk
            clear hk
            refine fieldAddr_by (fa64_1 _) ?_
            refine H.load 0 rfl agg62 rfl ?_
            refine idxAddr_sl Try.underlying62 (s := 4) size78 j (wsub2 (by omega)) hgo (o' := j * 4) (by omega) ?_
            refine H.loadOwnAgg 1 rfl encN_length agg78 size78 j rfl hx ?_
            refine H.alloc 78 zero78 rfl ?_
            clear H
            intro g10 w10 H
            refine H.storeAll 0 rfl size78 rfl (fun v hv => encN_one (m, true) v hv) ?_
            clear H
            intro w11 H
            refine fieldAddr_by (fa78_3 _) ?_
            refine H.load 0 rfl agg4 rfl ?_
            refine bin_eql_bool Try.underlying4 ?_
            iterate 14 refine cond_no rfl ?_
            exact ⟨j + 1, by show N.length - (j + 1) < N.length - j; omega, ⟨hupj, trivial⟩, by show j + 1 ≤ N.length; omega, H.forget⟩
          | false =>
            replace hsl : slot (ab N) j = some m := hsl
            refine call_fn (c72_a j (by omega) m hsl _ (H.get 2 rfl)) ?_
            rintro _ w6 ⟨rfl, hk⟩
            replace H := H.same hk
            clear hk
            refine fieldAddr_by (fa64_1 _) ?_
            refine H.load 0 rfl agg62 rfl ?_
            refine idxAddr_sl Try.underlying62 (s := 4) size78 j (wsub2 (by omega)) hgo (o' := j * 4) (by omega) ?_
            refine H.loadOwnAgg 1 rfl encN_length agg78 size78 j rfl hx ?_
            refine H.alloc 78 zero78 rfl ?_
            clear H
            intro g10 w10 H
            refine H.storeAll 0 rfl size78 rfl (fun v hv => encN_one (m, false) v hv) ?_
            clear H
            intro w11 H
            refine fieldAddr_by (fa78_3 _) ?_
            refine H.load 0 rfl agg4 rfl ?_
            refine bin_eql_bool Try.underlying4 ?_
            iterate 2 refine cond_no rfl ?_
            iterate 2 refine cond_yes rfl ?_
            refine fieldAddr_by (fa78_0 _) ?_
            refine cond_yes rfl ?_
            refine H.load 0 rfl agg3 rfl ?_
            iterate 2 refine cond_yes rfl ?_
            iterate 2 refine cond_no (bne_self_eq_false _) ?_
            refine fieldAddr_by (fa78_1 _) ?_
            refine cond_no (bne_self_eq_false _) ?_
            refine H.load 0 rfl agg3 rfl ?_
            refine cond_no (bne_self_eq_false _) ?_
            refine cond_yes rfl ?_
            refine cond_no (bne_self_eq_false _) ?_
            refine cond_yes rfl ?_
            iterate 2 refine cond_no (bne_self_eq_false _) ?_
            refine fieldAddr_by (fa78_2 _) ?_
            refine cond_no (bne_self_eq_false _) ?_
            refine H.load 0 rfl agg3 rfl ?_
            refine cond_no (bne_self_eq_false _) ?_
            refine cond_yes rfl ?_
            refine cond_no (bne_self_eq_false _) ?_
            refine cond_no rfl ?_
            refine cond_yes rfl ?_
            refine cond_no rfl ?_
            refine cond_no (bne_self_eq_false _) ?_
            exact ⟨j + 1, by show N.length - (j + 1) < N.length - j; omega, ⟨hupj, trivial⟩, by show j + 1 ≤ N.length; omega, H.forget⟩
        · refine cond_no (decide_eq_false (by rw [hw2]; omega)) ?_
          exact ⟨(), trivial, H⟩
      · rintro ⟨⟩ u w5 H1
        replace H : Hp _ _ _ _ _ := H1
        clear H1
        refine H.loadAll 0 rfl agg64 size64 ?_
        refine H.buildOne T32 rfl ?_
        clear H
        intro g7 w7 H
        refine call_fn (c73 room N B c [id] (some ⟨g7, 0, none⟩) 1 _ (by omega) (by show 1 ≤ 100000; omega) (own_Sl (H.get 2 rfl)) (blk_Sl1 (H.get 0 rfl) (blk_lt (H.get 0 rfl))) hok.inv) ?_
        rintro _ w8 ⟨gm, M, rfl, hMl, hM, hn⟩
        replace H := H.addNew hn
        clear hn
        refine call_fn (c74 hok id hid.2 _ (H.get 4 rfl)) ?_
        rintro _ w9 ⟨Br, cr, rfl, hn⟩
        replace H := H.addNew hn
        clear hn
        have hmet : ∀ x, mb (markA (ab N) 26 id (List.replicate (ab N).length false)) x = mb M (x + 2) := fun x => by
          rw [Bool.eq_iff_iff, reach_spec hok.inv, hM]; simp
        have hrl : reachL (ab N) id = reachTo (markA (ab N) 26 id (List.replicate (ab N).length false)) N.length := by unfold reachL; rw [ab_length]
        rw [hrl] at H ⊢
        generalize markA (ab N) 26 id (List.replicate (ab N).length false) = met at H hmet hrl
        clear hrl
        have hrle : ∀ j, (reachTo met j).length ≤ j := fun j => reachTo_le _ _
        refine cut_rule (γ := Unit) _ rfl (fun _ => [(25, .int .i64 0)]) (fun _ w' => Hp.cl H w') ⟨(), ⟨rfl, trivial⟩, H⟩ ?_
        rintro ⟨⟩ u w10 H1
        replace H : Hp _ _ _ _ _ := H1
        clear H1
        refine cut_rule (γ := Unit) _ rfl (fun _ => [(25, .int .i64 ((reachTo met N.length).length : Int))]) (fun _ w' => Hp.cl H w') ?_ ?_
        · refine loop_rule (γ := Nat) _ rfl (fun j => [(26, .int .i64 ((j : Int) + 2)), (25, .int .i64 ((reachTo met j).length : Int))]) (fun j w' => j ≤ N.length ∧ Hp.cl H w') (fun j => N.length - j) 0 ⟨rfl, rfl, trivial⟩ ⟨Nat.zero_le _, H⟩ ?_
          rintro j u w11 ⟨hj, H1⟩
          replace H : Hp _ _ _ _ _ := H1
          refine len_sl Try.underlying29 ?_
          have hupj := upj (j := j) (by omega)
          have hrj := hrle j
          by_cases hgo : j < N.length
          · refine cond_yes (decide_eq_true (by omega)) ?_
            refine idxAddr_sl Try.underlying29 (s := 1) size4 (j + 2) (by omega) (by omega) (o' := j + 2) (by omega) ?_
            refine H.loadOwn 1 rfl agg4 (bls_mb (by omega)) ?_
            have hmj := hmet j
            refine cond_split (fun hb => ?_) (fun hb => ?_)
            · have hat := reach_at hgo (hmj.trans hb)
              have hlt := (List.getElem?_eq_some_iff.1 hat).1
              have hsuc := reachTo_succ met j
              rw [if_pos (hmj.trans hb)] at hsuc
              obtain ⟨gr, rfl⟩ := H.ownA 0 rfl (by omega)
              have hget : (ints (reachTo met N.length))[(reachTo met j).length]? = some (.int .i64 ((j : Int) + 2)) := by rw [ints, List.getElem?_map, hat]; rfl
              refine len_sl Try.underlying32 ?_
              iterate 3 refine cond_no (decide_eq_false (by omega)) ?_
              refine idxAddr_sl Try.underlying32 (s := 1) size3 (reachTo met j).length rfl hlt (o' := (reachTo met j).length) (by omega) ?_
              refine cond_no (decide_eq_false (by omega)) ?_
              refine H.loadOwn 0 rfl agg3 hget ?_
              iterate 3 refine cond_no (decide_eq_false (by omega)) ?_
              refine cond_no (bne_self_eq_false _) ?_
              exact ⟨j + 1, by show N.length - (j + 1) < N.length - j; omega, ⟨hupj, by rw [hsuc, List.length_append]; exact up (by omega), trivial⟩, by show j + 1 ≤ N.length; omega, H⟩
            · have hsuc := reachTo_succ met j
              rw [if_neg (by rw [hmj, hb]; decide)] at hsuc
              exact ⟨j + 1, by show N.length - (j + 1) < N.length - j; omega, ⟨hupj, by rw [hsuc]; rfl, trivial⟩, by show j + 1 ≤ N.length; omega, H⟩
          · obtain rfl : j = N.length := by omega
            refine cond_no (decide_eq_false (by omega)) ?_
            exact ⟨(), ⟨rfl, trivial⟩, H⟩
        · rintro ⟨⟩ u w11 H1
          replace H : Hp _ _ _ _ _ := H1
          clear H1
          refine len_sl Try.underlying32 ?_
          refine cond_yes (beq_self_eq_true _) ?_
          refine call_fn (c65 _) ?_ 
          rintro _ w13 ⟨rfl, hk13⟩ 
          replace H := H.same hk13
          refine cond_yes (beq_self_eq_true _) ?_
          exact ⟨rfl, H.keeps⟩
theorem law9 (room : Int) (v1 : Value) (id : Int) (hid : okI id) (la : List AskV) (w : World) (h1 : AsksAt w v1 la) : Fun Try.prog 9 [.int .i64 room, v1, .int .i64 id] w fun v w' => v = .bool true ∧ Same w w' := by
  rcases Int.lt_or_le room 0 with h0 | h0
  · exact law9_b room (.inl h0) v1 id w
  rcases Int.lt_or_le 20000 room with h3 | h3
  · exact law9_b room (.inr h3) v1 id w
  obtain ⟨B1, c1, rfl, hl1, hk1, hs1⟩ := h1
  exact law9_m room h0 h3 la B1 c1 id hid w hk1 hs1
end Go.Proofs.Ytjebpngdinbckaa

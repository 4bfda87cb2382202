import Derived.Test.YtjebpngdinbckaaPart7
/- Lemmas, part 8: what the proof of the row uses. -/
section
/- Graphs: swapped, the walk. -/
namespace Go.Proofs.Ytjebpngdinbckaa
open Go.Dk
attribute [local irreducible] IntKind.wrap

theorem build239s {A : Option Addr} {n c : Nat} {w : World} {kk : Value → World → Prop} (h : kk (.agg #[.slice A n c, .map none]) w) : buildK Try.prog 239 [(0, .slice A n c)] w kk :=
  build_by (fun w => by kernel_rfl) h
theorem NowOk.at {P : List Nd} {k : Nat} {M : List Nd} {now : List Int} {i : Nat} (h : NowOk P k M now i) {a : Nat} (ha : a < i + 2) : ∃ y : Nat, now[a]? = some (y : Int) ∧ Rep (arN M) (y : Int) (swF k (sem (arN P) (a : Int))) := by
  obtain ⟨x, h1, h2⟩ := h a ha
  obtain ⟨y, rfl⟩ := Int.eq_ofNat_of_zero_le (lvlA_nonneg h2.there)
  exact ⟨y, h1, h2⟩
theorem now_start (P : List Nd) (k n : Nat) : NowOk P k [] ((List.replicate (n + 2) (0 : Int)).set 1 1) 0 := fun id hid => by
  have h : id = 0 ∨ id = 1 := by omega
  rcases h with rfl | rfl
  · refine ⟨0, by simp, rep_zero.congr fun a => ?_⟩
    show false = sem (arN P) 0 (swA k a)
    rw [sem_none (nd_end (.inl rfl))]; rfl
  · refine ⟨1, by simp, rep_one.congr fun a => ?_⟩
    show true = sem (arN P) 1 (swA k a)
    rw [sem_none (nd_end (.inr rfl))]; rfl
theorem nodeN_nonneg (N : List Nd) (k : Nat) (x y : Nat) : ∃ z : Nat, (nodeN N k x y).2 = (z : Int) := by
  unfold nodeN
  split
  · exact ⟨x, rfl⟩
  · split
    · exact ⟨_, rfl⟩
    · exact ⟨_, rfl⟩
theorem intsI_at {l : List Int} {a : Nat} {x : Int} (h : l[a]? = some x) : (intsI l)[a]? = some (.int .i64 x) := by rw [intsI, List.getElem?_map, h]; rfl
theorem intsI_set (l : List Int) (i : Nat) (x : Int) : (intsI l).set i (.int .i64 x) = intsI (l.set i x) := by unfold intsI; rw [List.map_set]
theorem ent196 : enters Try.prog 196 = true := by kernel_rfl
theorem c196 {o : List Int} {N : List I3} {root : Int} {P : List Nd} (hg : RightG o N root P) (k : Nat) (hk : k + 1 < o.length) (Bo A : Option Addr) (co c : Nat) (hl : N.length ≤ 1000) (w : World) (hS : Sl w (.slice Bo o.length co) 1 o.length (intsI o)) (hA : Sl w (.slice A N.length c) 3 N.length (flat encI N)) :
    Fun Try.prog 196 [grV (.slice Bo o.length co) (.slice A N.length c) root, .int .i64 (k : Int)] w fun v w' => ∃ vo vn N' r', v = grV vo vn r' ∧ IsGraph (swF k (sem (arN P) root)) N' r' ∧ NewR w w' (grR vo vn (swL o k) N') := by
  refine fun_of_W (N := 168) Try.func196 ent196 rfl rfl rfl (by simp) ?_
  have H := Hp.start0 w
  have hord := hg.ord
  have ho8 := hord.le
  have hnds := hg.nds
  have hPl : P.length = N.length := by have := congrArg List.length hnds; rwa [List.length_map] at this
  have hinv := hg.inv
  refine cut_rule (γ := Nat × Nat) _ rfl (fun (g2, g4) => [(2, .pointer (some ⟨g2, 0, none⟩)), (4, .pointer (some ⟨g4, 0, none⟩))]) (fun (g2, g4) w' => Hp w (fun _ => False) w' [blk g2 148 (grC (.slice Bo o.length co) (.slice A N.length c) root), blk g4 148 (grC (.slice none 0 0) (.slice none 0 0) 0)] []) ?_ ?_
  · refine H.box 148 _ (cs := grC (.slice Bo o.length co) (.slice A N.length c) root) rfl ?_
    clear H
    intro g2 w1 H
    refine H.alloc 148 (cs := grC (.slice none 0 0) (.slice none 0 0) 0) zero148 rfl ?_
    clear H
    intro g4 w2 H
    exact ⟨(g2, g4), ⟨rfl, rfl, trivial⟩, H.front 1 rfl⟩
  clear H
  rintro ⟨g2, g4⟩ u w1 H
  replace H : Hp _ _ _ _ _ := H
  refine cut_rule (γ := Nat × Nat) _ rfl (fun (gm, rm) => [(5, .pointer (some ⟨gm, 0, none⟩))]) (fun (gm, rm) w' => Hp w (fun _ => False) w' [mkR gm rm (.slice none 0 0) [], blk g2 148 (grC (.slice Bo o.length co) (.slice A N.length c) root), blk g4 148 (grC (.slice none 0 0) (.slice none 0 0) 0)] []) ?_ ?_
  · refine H.makeMap kaN vbN ?_
    clear H
    intro rm w4 H
    refine build239 ?_
    refine H.box 239 _ (cs := mkC (.slice none 0 0) rm) rfl ?_
    clear H
    intro gm w5 H
    have H := H.ownNil 230 3
    have H : Hp w (fun _ => False) w5 (mapR kaN vbN rm [] :: blk gm 239 (mkC (.slice none 0 0) rm) :: own 230 3 (.slice none 0 0) 0 [] :: [blk g2 148 (grC (.slice Bo o.length co) (.slice A N.length c) root), blk g4 148 (grC (.slice none 0 0) (.slice none 0 0) 0)]) [] := H.sel [2, 1, 0, 3, 4] (by decide) rfl
    exact ⟨(gm, rm), ⟨rfl, trivial⟩, mkClose (N := []) (l := []) ids_nil H⟩
  clear H
  rintro ⟨gm, rm⟩ u w2 H
  replace H : Hp _ _ _ _ _ := H
  refine cut_rule (γ := Nat) _ rfl (fun g6 => [(6, .slice (some ⟨g6, 0, none⟩) (N.length + 2) (N.length + 2))]) (fun g6 w' => Hp w (fun _ => False) w' [own 3 1 (.slice (some ⟨g6, 0, none⟩) (N.length + 2) (N.length + 2)) (N.length + 2) (intsI (List.replicate (N.length + 2) 0)), mkR gm rm (.slice none 0 0) [], blk g2 148 (grC (.slice Bo o.length co) (.slice A N.length c) root), blk g4 148 (grC (.slice none 0 0) (.slice none 0 0) 0)] []) ?_ ?_
  · refine fieldAddr_by (fa148_1 _) ?_
    refine H.load 1 rfl agg146 rfl ?_
    refine len_sl Try.underlying146 ?_
    have hw2 : IntKind.i64.wrap ((N.length : Int) + 2) = ((N.length + 2 : Nat) : Int) := add2 (by omega)
    refine H.make T32 (N.length + 2) hw2 hw2 (by omega) (by omega) ?_
    clear H
    intro g6 w3 H
    rw [madeInt] at H
    refine ⟨g6, ⟨rfl, trivial⟩, ?_⟩
    rw [show intsI (List.replicate (N.length + 2) 0) = List.replicate (N.length + 2) (.int .i64 0) by unfold intsI; rw [List.map_replicate]]
    exact H
  clear H
  rintro g6 u w3 H
  replace H : Hp _ _ _ _ _ := H
  refine cut_rule (γ := Nat) _ rfl (fun g7 => [(7, .pointer (some ⟨g7, 0, none⟩))]) (fun g7 w' => Hp w (fun _ => False) w' [mkR gm rm (.slice none 0 0) [], own 3 1 (.slice (some ⟨g6, 0, none⟩) (N.length + 2) (N.length + 2)) (N.length + 2) (intsI (List.replicate (N.length + 2) 0)), blk g7 239 #[.slice A N.length c, .map none], blk g2 148 (grC (.slice Bo o.length co) (.slice A N.length c) root), blk g4 148 (grC (.slice none 0 0) (.slice none 0 0) 0)] []) ?_ ?_
  · refine fieldAddr_by (fa148_1 _) ?_
    refine H.load 2 rfl agg146 rfl ?_
    refine build239s ?_
    refine H.box 239 _ (cs := #[.slice A N.length c, .map none]) rfl ?_
    clear H
    intro g7 w4 H
    exact ⟨g7, ⟨rfl, trivial⟩, H.sel [2, 1, 0, 3, 4] (by decide) rfl⟩
  clear H
  rintro g7 u w4 H
  replace H : Hp _ _ _ _ _ := H
  refine cut_rule (γ := Unit) _ rfl (fun _ => []) (fun _ w' => Hp w (fun _ => False) w' [mkR gm rm (.slice none 0 0) [], own 3 1 (.slice (some ⟨g6, 0, none⟩) (N.length + 2) (N.length + 2)) (N.length + 2) (intsI ((List.replicate (N.length + 2) 0).set 1 1)), blk g7 239 #[.slice A N.length c, .map none], blk g2 148 (grC (.slice Bo o.length co) (.slice A N.length c) root), blk g4 148 (grC (.slice none 0 0) (.slice none 0 0) 0)] []) ?_ ?_
  · refine idxAddr_sl Try.underlying32 (s := 1) size3 1 rfl (by omega) (o' := 1) (by omega) ?_
    refine H.storeOwn 1 rfl size3 (by rw [intsI, List.length_map, List.length_replicate]; omega) rfl ?_
    clear H
    intro w5 H
    rw [intsI_set] at H
    exact ⟨(), trivial, H⟩
  clear H
  rintro ⟨⟩ u w5 H
  replace H : Hp _ _ _ _ _ := H
  refine cut_rule (γ := Value × List Nd × List Int) _ rfl (fun _ => []) (fun (sv1, M, now) w' => (now.length = N.length + 2 ∧ NowOk P k M now N.length ∧ BInv o.length (arN M) ∧ M.length ≤ 3 * N.length) ∧ Hp w (fun _ => False) w' [mkR gm rm sv1 M, own 3 1 (.slice (some ⟨g6, 0, none⟩) (N.length + 2) (N.length + 2)) (N.length + 2) (intsI now), blk g7 239 #[.slice A N.length c, .map none], blk g2 148 (grC (.slice Bo o.length co) (.slice A N.length c) root), blk g4 148 (grC (.slice none 0 0) (.slice none 0 0) 0)] []) ?_ ?_
  · refine fieldAddr_by (fa148_1 _) ?_
    refine H.load 3 rfl agg146 rfl ?_
    refine len_sl Try.underlying146 ?_
    refine loop_rule (γ := Nat × Value × List Nd × List Int) _ rfl (fun (i, _) => [(34, .int .i64 (i : Int))]) (fun (i, sv1, M, now) w' => (i ≤ N.length ∧ now.length = N.length + 2 ∧ NowOk P k M now i ∧ BInv o.length (arN M) ∧ M.length ≤ 3 * i) ∧ Hp w (fun _ => False) w' [mkR gm rm sv1 M, own 3 1 (.slice (some ⟨g6, 0, none⟩) (N.length + 2) (N.length + 2)) (N.length + 2) (intsI now), blk g7 239 #[.slice A N.length c, .map none], blk g2 148 (grC (.slice Bo o.length co) (.slice A N.length c) root), blk g4 148 (grC (.slice none 0 0) (.slice none 0 0) 0)] []) (fun (i, _) => N.length - i) (0, .slice none 0 0, [], (List.replicate (N.length + 2) 0).set 1 1) ⟨rfl, trivial⟩ ⟨⟨Nat.zero_le _, by simp, now_start P k N.length, BInv.nil _, Nat.le_refl _⟩, H⟩ ?_
    clear H
    rintro ⟨i, sv1, M, now⟩ u w6 ⟨⟨hi, hnl, hnow, hM, hMl⟩, H⟩
    replace H : Hp _ _ _ _ _ := H
    refine cond_dec (fun h7 => ?_) (fun h7 => ?_)
    · have hiN : i < N.length := by omega
      obtain ⟨d, hd⟩ : ∃ d, P[i]? = some d := ⟨_, List.getElem?_eq_getElem (by omega)⟩
      have hdi : N[i]? = some (i3 d) := by rw [← hnds, List.getElem?_map, hd]; rfl
      have hsl : slot (arN P) i = some d := by rw [slot_arN]; exact hd
      obtain ⟨gA, oA, rfl⟩ := hA.A (by omega)
      have htop := hg.topo i d hd
      have hdl := hinv.lt i d hsl
      have hlev := hinv.inv.lev i d hsl
      have hw2 : IntKind.i64.wrap ((i : Int) + 2) = ((i + 2 : Nat) : Int) := add2 (by omega)
      have hwk : IntKind.i64.wrap ((k : Int) + 1) = ((k + 1 : Nat) : Int) := by rw [wrap_i64_in (by omega) (by omega)]; omega
      refine cut_rule (γ := Value × List Nd × List Int) _ rfl (fun _ => []) (fun (sv1, M, now) w' => (now.length = N.length + 2 ∧ NowOk P k M now (i + 1) ∧ BInv o.length (arN M) ∧ M.length ≤ 3 * (i + 1)) ∧ Hp w (fun _ => False) w' [mkR gm rm sv1 M, own 3 1 (.slice (some ⟨g6, 0, none⟩) (N.length + 2) (N.length + 2)) (N.length + 2) (intsI now), blk g7 239 #[.slice (some ⟨gA, oA, none⟩) N.length c, .map none], blk g2 148 (grC (.slice Bo o.length co) (.slice (some ⟨gA, oA, none⟩) N.length c) root), blk g4 148 (grC (.slice none 0 0) (.slice none 0 0) 0)] []) ?_ ?_
      · refine cut_rule (γ := Nat) _ rfl (fun g9 => [(9, .pointer (some ⟨g9, 0, none⟩)), (8, .int .i64 (i : Int))]) (fun g9 w' => Hp w (fun _ => False) w' [mkR gm rm sv1 M, blk g9 230 (k3c d.l d.lo d.hi), own 3 1 (.slice (some ⟨g6, 0, none⟩) (N.length + 2) (N.length + 2)) (N.length + 2) (intsI now), blk g7 239 #[.slice (some ⟨gA, oA, none⟩) N.length c, .map none], blk g2 148 (grC (.slice Bo o.length co) (.slice (some ⟨gA, oA, none⟩) N.length c) root), blk g4 148 (grC (.slice none 0 0) (.slice none 0 0) 0)] []) ?_ ?_
        · refine idxAddr_sl Try.underlying146 size230 i rfl hiN (o' := oA + i * 3) (by omega) ?_
          refine Sl.loadAgg H hA encI_length agg230 size230 i rfl hdi ?_
          refine H.alloc 230 zero230 rfl ?_
          clear H
          intro g9 w7 H
          refine H.storeAll 0 rfl size230 rfl (fun v hv => encI_one (i3 d) v hv) ?_
          clear H
          intro w8 H
          exact ⟨g9, ⟨rfl, rfl, trivial⟩, H.front 1 rfl⟩
        clear H
        rintro g9 u w7 H
        replace H : Hp _ _ _ _ _ := H
        have fin : ∀ {w9 : World} {sv2 : Value} {M2 : List Nd} {y : Int}, Ext (arN M) (arN M2) → BInv o.length (arN M2) → M2.length ≤ M.length + 3 → Rep (arN M2) y (swF k (sem (arN P) ((i : Int) + 2))) → Hp w (fun _ => False) w9 [mkR gm rm sv2 M2, blk g9 230 (k3c d.l d.lo d.hi), own 3 1 (.slice (some ⟨g6, 0, none⟩) (N.length + 2) (N.length + 2)) (N.length + 2) (intsI (now.set (i + 2) y)), blk g7 239 #[.slice (some ⟨gA, oA, none⟩) N.length c, .map none], blk g2 148 (grC (.slice Bo o.length co) (.slice (some ⟨gA, oA, none⟩) N.length c) root), blk g4 148 (grC (.slice none 0 0) (.slice none 0 0) 0)] [] →
            ((now.set (i + 2) y).length = N.length + 2 ∧ NowOk P k M2 (now.set (i + 2) y) (i + 1) ∧ BInv o.length (arN M2) ∧ M2.length ≤ 3 * (i + 1)) ∧ Hp w (fun _ => False) w9 [mkR gm rm sv2 M2, own 3 1 (.slice (some ⟨g6, 0, none⟩) (N.length + 2) (N.length + 2)) (N.length + 2) (intsI (now.set (i + 2) y)), blk g7 239 #[.slice (some ⟨gA, oA, none⟩) N.length c, .map none], blk g2 148 (grC (.slice Bo o.length co) (.slice (some ⟨gA, oA, none⟩) N.length c) root), blk g4 148 (grC (.slice none 0 0) (.slice none 0 0) 0)] [] := fun {w9 sv2 M2 y} hx hM2 hl2 hr H =>
          ⟨⟨by rw [List.length_set]; exact hnl, NowOk.put (hnow.ext hM.inv hM2.inv hx) (by omega) hr, hM2, by omega⟩, H.sel [0, 2, 3, 4, 5] (by decide) rfl⟩
        by_cases hck : d.l = k
        · refine fieldAddr_by (fa230_0 _ _) ?_
          refine H.load 1 rfl agg3 rfl ?_
          refine cond_yes (beq_iff_eq.2 (by omega)) ?_
          have hlo0 : 0 ≤ lvlA (arN P) (d.lo : Int) := by omega
          have hhi0 : 0 ≤ lvlA (arN P) (d.hi : Int) := by omega
          obtain ⟨sl0, sl1⟩ := halves_sem hinv (id := (d.lo : Int)) (lev := k + 1) (by omega)
          obtain ⟨sh0, sh1⟩ := halves_sem hinv (id := (d.hi : Int)) (lev := k + 1) (by omega)
          obtain ⟨⟨p1, p2⟩, p3, p4⟩ := halves_below hg.topo (id := (d.lo : Int)) (k + 1) (by omega)
          obtain ⟨⟨q1, q2⟩, q3, q4⟩ := halves_below hg.topo (id := (d.hi : Int)) (k + 1) (by omega)
          have hc1 := fun w h1 h2 => c215 (n := o.length) hnds hinv (some ⟨gA, oA, none⟩) c g7 (d.lo : Int) (k + 1) (by omega) hlo0 w h1 h2
          have hc2 := fun w h1 h2 => c215 (n := o.length) hnds hinv (some ⟨gA, oA, none⟩) c g7 (d.hi : Int) (k + 1) (by omega) hhi0 w h1 h2
          rw [← hwk] at hc1 hc2
          generalize halvesP P d.lo (k + 1) = hl1 at sl0 sl1 p1 p2 p3 p4 hc1
          generalize halvesP P d.hi (k + 1) = hl2 at sh0 sh1 q1 q2 q3 q4 hc2
          obtain ⟨l0, l1⟩ := hl1
          obtain ⟨h0, h1⟩ := hl2
          simp only at sl0 sl1 p1 p2 p3 p4 hc1 sh0 sh1 q1 q2 q3 q4 hc2
          obtain ⟨l0, rfl⟩ := Int.eq_ofNat_of_zero_le p1
          obtain ⟨l1, rfl⟩ := Int.eq_ofNat_of_zero_le p3
          obtain ⟨h0, rfl⟩ := Int.eq_ofNat_of_zero_le q1
          obtain ⟨h1, rfl⟩ := Int.eq_ofNat_of_zero_le q3
          obtain ⟨xl0, xl0a, xl0b⟩ := hnow.at (a := l0) (by omega)
          obtain ⟨xl1, xl1a, xl1b⟩ := hnow.at (a := l1) (by omega)
          obtain ⟨xh0, xh0a, xh0b⟩ := hnow.at (a := h0) (by omega)
          obtain ⟨xh1, xh1a, xh1b⟩ := hnow.at (a := h1) (by omega)
          have m1 := sw_half (room := 1000000) (by omega) hinv hk hM (by omega) hsl hck (v := false) sl0 sh0 xl0b xh0b
          have e1 := nodeN_more M (k + 1) xl0 xh0
          obtain ⟨z1, hz1⟩ := nodeN_nonneg M (k + 1) xl0 xh0
          rw [hz1] at m1
          generalize hM1 : (nodeN M (k + 1) xl0 xh0).1 = M1 at m1 e1
          have m2 := sw_half (room := 1000000) (by omega) hinv hk m1.inv (by omega) hsl hck (v := true) sl1 sh1 (xl1b.ext hM.inv m1.inv.inv m1.ext) (xh1b.ext hM.inv m1.inv.inv m1.ext)
          have e2 := nodeN_more M1 (k + 1) xl1 xh1
          obtain ⟨z2, hz2⟩ := nodeN_nonneg M1 (k + 1) xl1 xh1
          rw [hz2] at m2
          generalize hM2 : (nodeN M1 (k + 1) xl1 xh1).1 = M2 at m2 e2
          have m3 := sw_place (room := 1000000) (by omega) hinv hk m2.inv (by omega) hsl hck (m1.ok.ext m1.inv.inv m2.inv.inv m2.ext) m2.ok
          have e3 := nodeN_more M2 k z1 z2
          refine cut_rule (γ := Unit) _ rfl (fun _ => [(10, .int .i64 (l0 : Int)), (11, .int .i64 (l1 : Int))]) (fun _ w' => Hp w (fun _ => False) w' [mkR gm rm sv1 M, blk g9 230 (k3c d.l d.lo d.hi), own 3 1 (.slice (some ⟨g6, 0, none⟩) (N.length + 2) (N.length + 2)) (N.length + 2) (intsI now), blk g7 239 #[.slice (some ⟨gA, oA, none⟩) N.length c, .map none], blk g2 148 (grC (.slice Bo o.length co) (.slice (some ⟨gA, oA, none⟩) N.length c) root), blk g4 148 (grC (.slice none 0 0) (.slice none 0 0) 0)] []) ?_ ?_
          · refine fieldAddr_by (fa230_1 _ _) ?_
            refine H.load 1 rfl agg3 rfl ?_
            refine call_fn (hc1 _ (H.get 3 rfl) (hA.same H.keeps)) ?_
            rintro _ w8 ⟨rfl, hkp⟩
            exact ⟨(), ⟨rfl, rfl, trivial⟩, H.same hkp⟩
          clear H
          rintro ⟨⟩ u w8 H
          replace H : Hp _ _ _ _ _ := H
          refine cut_rule (γ := Unit) _ rfl (fun _ => [(12, .int .i64 (h0 : Int)), (13, .int .i64 (h1 : Int))]) (fun _ w' => Hp w (fun _ => False) w' [mkR gm rm sv1 M, blk g9 230 (k3c d.l d.lo d.hi), own 3 1 (.slice (some ⟨g6, 0, none⟩) (N.length + 2) (N.length + 2)) (N.length + 2) (intsI now), blk g7 239 #[.slice (some ⟨gA, oA, none⟩) N.length c, .map none], blk g2 148 (grC (.slice Bo o.length co) (.slice (some ⟨gA, oA, none⟩) N.length c) root), blk g4 148 (grC (.slice none 0 0) (.slice none 0 0) 0)] []) ?_ ?_
          · refine fieldAddr_by (fa230_2 _ _) ?_
            refine H.load 1 rfl agg3 rfl ?_
            refine call_fn (hc2 _ (H.get 3 rfl) (hA.same H.keeps)) ?_
            rintro _ w9 ⟨rfl, hkp⟩
            exact ⟨(), ⟨rfl, rfl, trivial⟩, H.same hkp⟩
          clear H
          rintro ⟨⟩ u w9 H
          replace H : Hp _ _ _ _ _ := H
          refine cut_rule (γ := Value) _ rfl (fun _ => [(14, .int .i64 (z1 : Int))]) (fun sv2 w' => Hp w (fun _ => False) w' [mkR gm rm sv2 M1, blk g9 230 (k3c d.l d.lo d.hi), own 3 1 (.slice (some ⟨g6, 0, none⟩) (N.length + 2) (N.length + 2)) (N.length + 2) (intsI now), blk g7 239 #[.slice (some ⟨gA, oA, none⟩) N.length c, .map none], blk g2 148 (grC (.slice Bo o.length co) (.slice (some ⟨gA, oA, none⟩) N.length c) root), blk g4 148 (grC (.slice none 0 0) (.slice none 0 0) 0)] []) ?_ ?_
          · refine H.drawC [blk g9 230 (k3c d.l d.lo d.hi), own 3 1 (.slice (some ⟨g6, 0, none⟩) (N.length + 2) (N.length + 2)) (N.length + 2) (intsI now), blk g7 239 #[.slice (some ⟨gA, oA, none⟩) N.length c, .map none], blk g2 148 (grC (.slice Bo o.length co) (.slice (some ⟨gA, oA, none⟩) N.length c) root), blk g4 148 (grC (.slice none 0 0) (.slice none 0 0) 0)] (fun u H => Hp.forget H) fol (by kernel_rfl) ?_
            clear H
            intro w10 H
            refine quiet _ (fun w H => idxAddr_sl Try.underlying32 (s := 1) size3 l0 rfl (by omega) (o' := l0) (by omega) ⟨rfl, rfl⟩) ?_
            refine quiet _ (fun w H => H.loadOwn 1 rfl agg3 (intsI_at xl0a) ⟨rfl, rfl⟩) ?_
            refine quiet _ (fun w H => idxAddr_sl Try.underlying32 (s := 1) size3 h0 rfl (by omega) (o' := h0) (by omega) ⟨rfl, rfl⟩) ?_
            refine quiet _ (fun w H => H.loadOwn 1 rfl agg3 (intsI_at xh0a) ⟨rfl, rfl⟩) ?_
            have hcc := c200 (g := gm) (r := rm) (sv := sv1) (N := M) (k + 1) xl0 xh0 hM.inv.uniq (by omega) w10 (H.get 0 rfl)
            rw [hz1, hM1] at hcc
            refine quiet _ (fun w H => build230 ⟨rfl, rfl⟩) ?_
            rw [← hwk] at hcc
            refine call_fn hcc ?_
            rintro _ w11 ⟨sv2, rfl, ht⟩
            replace H := H.turnBy 0 rfl ht
            refine ⟨.inl (Hp.forget H), ?_⟩
            exact ⟨sv2, ⟨rfl, trivial⟩, H⟩
          clear H
          rintro sv2 u w10 H
          replace H : Hp _ _ _ _ _ := H
          refine cut_rule (γ := Value) _ rfl (fun _ => [(15, .int .i64 (z2 : Int))]) (fun sv3 w' => Hp w (fun _ => False) w' [mkR gm rm sv3 M2, blk g9 230 (k3c d.l d.lo d.hi), own 3 1 (.slice (some ⟨g6, 0, none⟩) (N.length + 2) (N.length + 2)) (N.length + 2) (intsI now), blk g7 239 #[.slice (some ⟨gA, oA, none⟩) N.length c, .map none], blk g2 148 (grC (.slice Bo o.length co) (.slice (some ⟨gA, oA, none⟩) N.length c) root), blk g4 148 (grC (.slice none 0 0) (.slice none 0 0) 0)] []) ?_ ?_
          · refine H.drawC [blk g9 230 (k3c d.l d.lo d.hi), own 3 1 (.slice (some ⟨g6, 0, none⟩) (N.length + 2) (N.length + 2)) (N.length + 2) (intsI now), blk g7 239 #[.slice (some ⟨gA, oA, none⟩) N.length c, .map none], blk g2 148 (grC (.slice Bo o.length co) (.slice (some ⟨gA, oA, none⟩) N.length c) root), blk g4 148 (grC (.slice none 0 0) (.slice none 0 0) 0)] (fun u H => Hp.forget H) fol (by kernel_rfl) ?_
            clear H
            intro w10 H
            refine quiet _ (fun w H => idxAddr_sl Try.underlying32 (s := 1) size3 l1 rfl (by omega) (o' := l1) (by omega) ⟨rfl, rfl⟩) ?_
            refine quiet _ (fun w H => H.loadOwn 1 rfl agg3 (intsI_at xl1a) ⟨rfl, rfl⟩) ?_
            refine quiet _ (fun w H => idxAddr_sl Try.underlying32 (s := 1) size3 h1 rfl (by omega) (o' := h1) (by omega) ⟨rfl, rfl⟩) ?_
            refine quiet _ (fun w H => H.loadOwn 1 rfl agg3 (intsI_at xh1a) ⟨rfl, rfl⟩) ?_
            have hcc := c200 (g := gm) (r := rm) (sv := sv2) (N := M1) (k + 1) xl1 xh1 m1.inv.inv.uniq (by omega) w10 (H.get 0 rfl)
            rw [hz2, hM2] at hcc
            refine quiet _ (fun w H => build230 ⟨rfl, rfl⟩) ?_
            rw [← hwk] at hcc
            refine call_fn hcc ?_
            rintro _ w11 ⟨sv3, rfl, ht⟩
            replace H := H.turnBy 0 rfl ht
            refine ⟨.inl (Hp.forget H), ?_⟩
            exact ⟨sv3, ⟨rfl, trivial⟩, H⟩
          clear H
          rintro sv3 u w10 H
          replace H : Hp _ _ _ _ _ := H
          refine build230 ?_
          refine call_fn (c200 (g := gm) (r := rm) (sv := sv3) (N := M2) k z1 z2 m2.inv.inv.uniq (by omega) _ (H.get 0 rfl)) ?_
          rintro _ w12 ⟨sv4, rfl, ht⟩
          replace H := H.turnBy 0 rfl ht
          refine idxAddr_sl Try.underlying32 (s := 1) size3 (i + 2) hw2 (by omega) (o' := i + 2) (by omega) ?_
          refine H.storeOwn 2 rfl size3 (by rw [intsI, List.length_map]; omega) rfl ?_
          clear H
          intro w13 H
          exact ⟨(sv4, (nodeN M2 k z1 z2).1, now.set (i + 2) (nodeN M2 k z1 z2).2), trivial, fin ((m1.ext.trans m2.ext).trans m3.ext) m3.inv (by omega) m3.ok (by rw [← intsI_set]; exact H)⟩
        · by_cases hck1 : d.l = k + 1
          · refine fieldAddr_by (fa230_0 _ _) ?_
            refine H.load 1 rfl agg3 rfl ?_
            refine cond_no (beq_eq_false_iff_ne.2 (by omega)) ?_
            refine cond_yes (beq_iff_eq.2 (by omega)) ?_
            obtain ⟨x, hx1, hx2⟩ := hnow.at (a := d.lo) (by omega)
            obtain ⟨y, hy1, hy2⟩ := hnow.at (a := d.hi) (by omega)
            have hmade := sw_other (room := 1000000) (by omega) hinv hM (by omega) hsl hck (l := k) (by unfold sw; split <;> (try split) <;> omega) (by omega) (fun j hj => by unfold sw; split <;> (try split) <;> omega) hx2 hy2
            have hmore := nodeN_more M k x y
            refine H.drawC [blk g9 230 (k3c d.l d.lo d.hi), own 3 1 (.slice (some ⟨g6, 0, none⟩) (N.length + 2) (N.length + 2)) (N.length + 2) (intsI now), blk g7 239 #[.slice (some ⟨gA, oA, none⟩) N.length c, .map none], blk g2 148 (grC (.slice Bo o.length co) (.slice (some ⟨gA, oA, none⟩) N.length c) root), blk g4 148 (grC (.slice none 0 0) (.slice none 0 0) 0)] (fun u H => Hp.forget H) fol (by kernel_rfl) ?_
            clear H
            intro w8 H
            refine quiet _ (fun w H => fieldAddr_by (fa230_1 _ _) ⟨rfl, rfl⟩) ?_
            refine quiet _ (fun w H => H.load 0 rfl agg3 rfl ⟨rfl, rfl⟩) ?_
            refine quiet _ (fun w H => idxAddr_sl Try.underlying32 (s := 1) size3 d.lo rfl (by omega) (o' := d.lo) (by omega) ⟨rfl, rfl⟩) ?_
            refine quiet _ (fun w H => H.loadOwn 1 rfl agg3 (intsI_at hx1) ⟨rfl, rfl⟩) ?_
            refine quiet _ (fun w H => fieldAddr_by (fa230_2 _ _) ⟨rfl, rfl⟩) ?_
            refine quiet _ (fun w H => H.load 0 rfl agg3 rfl ⟨rfl, rfl⟩) ?_
            refine quiet _ (fun w H => idxAddr_sl Try.underlying32 (s := 1) size3 d.hi rfl (by omega) (o' := d.hi) (by omega) ⟨rfl, rfl⟩) ?_
            refine quiet _ (fun w H => H.loadOwn 1 rfl agg3 (intsI_at hy1) ⟨rfl, rfl⟩) ?_
            refine quiet _ (fun w H => build230 ⟨rfl, rfl⟩) ?_
            refine call_fn (c200 (g := gm) (r := rm) (sv := sv1) (N := M) k x y hM.inv.uniq (by omega) _ (H.get 0 rfl)) ?_
            rintro _ w9 ⟨sv2, rfl, ht⟩
            replace H := H.turnBy 0 rfl ht
            refine ⟨.inl (Hp.forget H), ?_⟩
            refine quiet _ (fun w H => idxAddr_sl Try.underlying32 (s := 1) size3 (i + 2) hw2 (by omega) (o' := i + 2) (by omega) ⟨rfl, rfl⟩) ?_
            refine H.storeOwn 2 rfl size3 (by rw [intsI, List.length_map]; omega) rfl ?_
            clear H
            intro w10 H
            refine ⟨.inr (by kernel_rfl), ?_⟩
            exact ⟨(sv2, (nodeN M k x y).1, now.set (i + 2) (nodeN M k x y).2), trivial, fin hmade.ext hmade.inv (by omega) hmade.ok (by rw [← intsI_set]; exact H)⟩
          · refine fieldAddr_by (fa230_0 _ _) ?_
            refine H.load 1 rfl agg3 rfl ?_
            iterate 2 refine cond_no (beq_eq_false_iff_ne.2 (by omega)) ?_
            obtain ⟨x, hx1, hx2⟩ := hnow.at (a := d.lo) (by omega)
            obtain ⟨y, hy1, hy2⟩ := hnow.at (a := d.hi) (by omega)
            have hmade := sw_other (room := 1000000) (by omega) hinv hM (by omega) hsl hck (l := d.l) (by unfold sw; split <;> (try split) <;> omega) (by omega) (fun j hj => by unfold sw; split <;> (try split) <;> omega) hx2 hy2
            have hmore := nodeN_more M d.l x y
            refine H.drawC [blk g9 230 (k3c d.l d.lo d.hi), own 3 1 (.slice (some ⟨g6, 0, none⟩) (N.length + 2) (N.length + 2)) (N.length + 2) (intsI now), blk g7 239 #[.slice (some ⟨gA, oA, none⟩) N.length c, .map none], blk g2 148 (grC (.slice Bo o.length co) (.slice (some ⟨gA, oA, none⟩) N.length c) root), blk g4 148 (grC (.slice none 0 0) (.slice none 0 0) 0)] (fun u H => Hp.forget H) fol (by kernel_rfl) ?_
            clear H
            intro w8 H
            refine quiet _ (fun w H => fieldAddr_by (fa230_0 _ _) ⟨rfl, rfl⟩) ?_
            refine quiet _ (fun w H => H.load 0 rfl agg3 rfl ⟨rfl, rfl⟩) ?_
            refine quiet _ (fun w H => fieldAddr_by (fa230_1 _ _) ⟨rfl, rfl⟩) ?_
            refine quiet _ (fun w H => H.load 0 rfl agg3 rfl ⟨rfl, rfl⟩) ?_
            refine quiet _ (fun w H => idxAddr_sl Try.underlying32 (s := 1) size3 d.lo rfl (by omega) (o' := d.lo) (by omega) ⟨rfl, rfl⟩) ?_
            refine quiet _ (fun w H => H.loadOwn 1 rfl agg3 (intsI_at hx1) ⟨rfl, rfl⟩) ?_
            refine quiet _ (fun w H => fieldAddr_by (fa230_2 _ _) ⟨rfl, rfl⟩) ?_
            refine quiet _ (fun w H => H.load 0 rfl agg3 rfl ⟨rfl, rfl⟩) ?_
            refine quiet _ (fun w H => idxAddr_sl Try.underlying32 (s := 1) size3 d.hi rfl (by omega) (o' := d.hi) (by omega) ⟨rfl, rfl⟩) ?_
            refine quiet _ (fun w H => H.loadOwn 1 rfl agg3 (intsI_at hy1) ⟨rfl, rfl⟩) ?_
            refine quiet _ (fun w H => build230 ⟨rfl, rfl⟩) ?_
            refine call_fn (c200 (g := gm) (r := rm) (sv := sv1) (N := M) d.l x y hM.inv.uniq (by omega) _ (H.get 0 rfl)) ?_
            rintro _ w9 ⟨sv2, rfl, ht⟩
            replace H := H.turnBy 0 rfl ht
            refine ⟨.inl (Hp.forget H), ?_⟩
            refine quiet _ (fun w H => idxAddr_sl Try.underlying32 (s := 1) size3 (i + 2) hw2 (by omega) (o' := i + 2) (by omega) ⟨rfl, rfl⟩) ?_
            refine H.storeOwn 2 rfl size3 (by rw [intsI, List.length_map]; omega) rfl ?_
            clear H
            intro w10 H
            refine ⟨.inr (by kernel_rfl), ?_⟩
            exact ⟨(sv2, (nodeN M d.l x y).1, now.set (i + 2) (nodeN M d.l x y).2), trivial, fin hmade.ext hmade.inv (by omega) hmade.ok (by rw [← intsI_set]; exact H)⟩
      · clear H
        rintro ⟨sv2, M2, now2⟩ u w7 ⟨⟨h1, h2, h3, h4⟩, H⟩
        exact ⟨(i + 1, sv2, M2, now2), by show N.length - (i + 1) < N.length - i; omega, ⟨up (by omega), trivial⟩, ⟨by show i + 1 ≤ N.length; omega, h1, h2, h3, h4⟩, H⟩
    · obtain rfl : i = N.length := by omega
      exact ⟨(sv1, M, now), trivial, ⟨hnl, hnow, hM, hMl⟩, H⟩
  clear H
  rintro ⟨sv1, M, now⟩ u w6 ⟨⟨hnl, hnow, hM, hMl⟩, H⟩
  replace H : Hp _ _ _ _ _ := H
  refine cut_rule (γ := Nat × Nat) _ rfl (fun (g16, d16) => [(16, .slice (some ⟨g16, 0, none⟩) o.length d16)]) (fun (g16, d16) w' => Hp w (fun _ => False) w' [own 3 1 (.slice (some ⟨g16, 0, none⟩) o.length d16) o.length (intsI o), mkR gm rm sv1 M, own 3 1 (.slice (some ⟨g6, 0, none⟩) (N.length + 2) (N.length + 2)) (N.length + 2) (intsI now), blk g2 148 (grC (.slice Bo o.length co) (.slice A N.length c) root), blk g4 148 (grC (.slice none 0 0) (.slice none 0 0) 0)] []) ?_ ?_
  · refine Hp.buildNil H T32 ?_
    clear H
    intro g20 w7 H
    refine fieldAddr_by (fa148_0 _) ?_
    refine H.load 4 rfl agg32 rfl ?_
    refine Hp.appendCopy H 0 T32 rfl (hS.same H.keeps) (intsI_one _) (by omega) (by omega) ?_
    clear H
    intro A16 d16 w8 H
    obtain ⟨g16, rfl⟩ := H.ownA 0 rfl (by omega)
    exact ⟨(g16, d16), ⟨rfl, trivial⟩, H.sel [0, 1, 2, 4, 5] (by decide) rfl⟩
  clear H
  rintro ⟨g16, d16⟩ u w7 H
  replace H : Hp _ _ _ _ _ := H
  have hwk : IntKind.i64.wrap ((k : Int) + 1) = ((k + 1 : Nat) : Int) := by rw [wrap_i64_in (by omega) (by omega)]; omega
  have hgk : o[k]? = some (o.getD k 0) := by rw [List.getD_eq_getElem?_getD, List.getElem?_eq_getElem (by omega)]; rfl
  have hgk1 : o[k + 1]? = some (o.getD (k + 1) 0) := by rw [List.getD_eq_getElem?_getD, List.getElem?_eq_getElem (by omega)]; rfl
  refine cut_rule (γ := Unit) _ rfl (fun _ => []) (fun _ w' => Hp w (fun _ => False) w' [own 3 1 (.slice (some ⟨g16, 0, none⟩) o.length d16) o.length (intsI (swL o k)), mkR gm rm sv1 M, own 3 1 (.slice (some ⟨g6, 0, none⟩) (N.length + 2) (N.length + 2)) (N.length + 2) (intsI now), blk g2 148 (grC (.slice Bo o.length co) (.slice A N.length c) root), blk g4 148 (grC (.slice none 0 0) (.slice none 0 0) 0)] []) ?_ ?_
  · have hset : ∀ x : Int, (o.set k x)[k + 1]? = some (o.getD (k + 1) 0) := fun x => by rw [List.getElem?_set, if_neg (by omega)]; exact hgk1
    have hself : o.set k (o.getD k 0) = o := List.ext_getElem? fun j => by
      rw [List.getElem?_set]
      by_cases hj : k = j
      · subst hj; rw [if_pos rfl, if_pos (by omega), hgk]
      · rw [if_neg hj]
    refine draw_mixS (fun i => i == 13) (fun u => ∃ x : Int, Hp w (fun _ => False) u [own 3 1 (.slice (some ⟨g16, 0, none⟩) o.length d16) o.length (intsI (o.set k x)), mkR gm rm sv1 M, own 3 1 (.slice (some ⟨g6, 0, none⟩) (N.length + 2) (N.length + 2)) (N.length + 2) (intsI now), blk g2 148 (grC (.slice Bo o.length co) (.slice A N.length c) root), blk g4 148 (grC (.slice none 0 0) (.slice none 0 0) 0)] []) fol (by kernel_rfl) ⟨o.getD k 0, by rw [hself]; exact H.same (Keeps.drew _)⟩ ?_
    replace H := H.same (Keeps.drew _)
    generalize w7.drew = w8 at H
    refine quiet _ (fun w H => idxAddr_sl Try.underlying32 (s := 1) size3 (k + 1) hwk hk (o' := k + 1) (by omega) ⟨rfl, rfl⟩) ?_
    refine quiet _ (fun w ⟨x, H⟩ => H.loadOwn 0 rfl agg3 (intsI_at (hset x)) ⟨rfl, rfl⟩) ?_
    refine quiet _ (fun w H => idxAddr_sl Try.underlying32 (s := 1) size3 k rfl (by omega) (o' := k) (by omega) ⟨rfl, rfl⟩) ?_
    refine H.loadOwn 0 rfl agg3 (intsI_at hgk) ?_
    refine ⟨.inl ⟨o.getD k 0, by rw [hself]; exact H⟩, ?_⟩
    refine quiet _ (fun w H => idxAddr_sl Try.underlying32 (s := 1) size3 k rfl (by omega) (o' := k) (by omega) ⟨rfl, rfl⟩) ?_
    refine H.storeOwn 0 rfl size3 (by rw [intsI, List.length_map]; omega) rfl ?_
    clear H
    intro w9 H
    refine ⟨.inl ⟨o.getD (k + 1) 0, by rw [← intsI_set]; exact H⟩, ?_⟩
    refine quiet _ (fun w H => idxAddr_sl Try.underlying32 (s := 1) size3 (k + 1) hwk hk (o' := k + 1) (by omega) ⟨rfl, rfl⟩) ?_
    refine H.storeOwn 0 rfl size3 (by rw [intsI, List.length_set, List.length_map]; omega) rfl ?_
    clear H
    intro w10 H
    refine ⟨.inr (by kernel_rfl), ?_⟩
    rw [intsI_set, intsI_set] at H
    exact ⟨(), trivial, H⟩
  clear H
  rintro ⟨⟩ u w8 H
  replace H : Hp _ _ _ _ _ := H
  obtain ⟨rt, rfl⟩ := Int.eq_ofNat_of_zero_le hg.root0
  have hrt := hg.root1
  obtain ⟨x, hx1, hx2⟩ := hnow.at (a := rt) (by omega)
  have hsem : sem (arN M) (x : Int) = swF k (sem (arN P) (rt : Int)) := by funext a; exact hx2.says a
  have hgr := read_graph (by omega) hM hx2.there
  rw [hsem] at hgr
  have hc := fun w h1 h2 => c201 (by omega) hM (by omega) gm rm sv1 (swL o k) (some ⟨g16, 0, none⟩) d16 (by rw [swL_length]; omega) (x : Int) hx2.there w h1 h2
  rw [swL_length] at hc
  refine fieldAddr_by (fa148_2 _) ?_
  refine H.load 3 rfl agg3 rfl ?_
  refine idxAddr_sl Try.underlying32 (s := 1) size3 rt rfl (by omega) (o' := rt) (by omega) ?_
  refine H.loadOwn 2 rfl agg3 (intsI_at hx1) ?_
  refine call_fn (hc _ (H.get 1 rfl) (own_Sl (H.get 0 rfl))) ?_
  rintro _ w9 ⟨vo, vn, rfl, hn⟩
  replace H := (H.addNew hn).split
  obtain ⟨Bo', co', rfl, _⟩ := own_form (H.get 0 rfl)
  obtain ⟨Bn, cn, rfl, _⟩ := own_form (H.get 1 rfl)
  refine Hp.storeAll H 6 rfl size148 rfl (grC_one _ _ _ _ _ _ _) ?_
  clear H
  intro w10 H
  refine H.loadAll 6 rfl agg148 size148 ?_
  refine ⟨rfl, ?_⟩
  have H : Hp w (fun _ => False) w10 ([own 3 1 (.slice Bo' (swL o k).length co') (swL o k).length (intsI (swL o k)), own 230 3 (.slice Bn (rd0 M x).1.1.length cn) (rd0 M x).1.1.length (flat encI (ndI (rd0 M x).1.1))] ++ []) [] := Hp.sel H [0, 1] (by decide) rfl
  exact ⟨_, _, (rd0 M x).1.1, (rd0 M x).2, rfl, hgr, H.join.out⟩
end Go.Proofs.Ytjebpngdinbckaa
end

section
/- Graphs: Swap. -/
namespace Go.Proofs.Ytjebpngdinbckaa
open Go.Dk
attribute [local irreducible] IntKind.wrap

theorem ent132 : enters Try.prog 132 = true := by kernel_rfl
theorem c132 (o : List Int) (N : List I3) (Bo A : Option Addr) (co c : Nat) (r : Int) (k : Int) (ho : o.length ≤ 1000) (hl : N.length ≤ 1000) (w : World) (hS : Sl w (.slice Bo o.length co) 1 o.length (intsI o)) (hA : Sl w (.slice A N.length c) 3 N.length (flat encI N)) :
    Fun Try.prog 132 [grV (.slice Bo o.length co) (.slice A N.length c) r, .int .i64 k] w fun v w' =>
      (¬ ((∃ P, RightG o N r P) ∧ 0 ≤ k ∧ k + 1 < o.length) ∧ v = .tuple #[grV (.slice none 0 0) (.slice none 0 0) 0, .int .i64 1] ∧ Same w w') ∨
      ∃ (P : List Nd) (j : Nat), RightG o N r P ∧ k = j ∧ j + 1 < o.length ∧ ∃ vo vn N' r', v = .tuple #[grV vo vn r', .int .i64 0] ∧ IsGraph (swF j (sem (arN P) r)) N' r' ∧ NewR w w' (grR vo vn (swL o j) N') := by
  refine fun_of_W (N := 25) Try.func132 ent132 rfl rfl rfl (by simp) ?_
  have H := Hp.start0 w
  refine cut_rule (γ := Nat × Nat) _ rfl (fun (g2, g4) => [(2, .pointer (some ⟨g2, 0, none⟩)), (4, .pointer (some ⟨g4, 0, none⟩)), (5, .int .i64 0)]) (fun (g2, g4) w' => Hp w (fun _ => False) w' [blk g4 148 (grC (.slice none 0 0) (.slice none 0 0) 0), blk g2 148 (grC (.slice Bo o.length co) (.slice A N.length c) r)] []) ?_ ?_
  · refine H.box 148 _ (cs := grC (.slice Bo o.length co) (.slice A N.length c) r) rfl ?_
    clear H
    intro g2 w1 H
    refine H.alloc 148 (cs := grC (.slice none 0 0) (.slice none 0 0) 0) zero148 rfl ?_
    clear H
    intro g4 w2 H
    exact ⟨(g2, g4), ⟨rfl, rfl, rfl, trivial⟩, H⟩
  clear H
  rintro ⟨g2, g4⟩ u w1 H
  replace H : Hp _ _ _ _ _ := H
  have hw2 : IntKind.i64.wrap ((o.length : Int) - 2) = (o.length : Int) - 2 := wrap_i64_in (by omega) (by omega)
  refine cut_rule (γ := Unit) _ rfl (fun _ => []) (fun _ w' => ((∃ P, RightG o N r P) ∧ 0 ≤ k ∧ k + 1 < o.length) ∧ Hp w (fun _ => False) w' [blk g4 148 (grC (.slice none 0 0) (.slice none 0 0) 0), blk g2 148 (grC (.slice Bo o.length co) (.slice A N.length c) r)] []) ?_ ?_
  · refine H.loadAll 1 rfl agg148 size148 ?_
    refine call_fn (c143 o N Bo A co c r ho hl _ (hS.same H.keeps) (hA.same H.keeps)) ?_
    rintro _ w2 ⟨b, rfl, hb, hk⟩
    replace H := H.same hk
    clear hk
    cases b with
    | false =>
      have hno : ¬ ∃ P, RightG o N r P := fun h => Bool.noConfusion (hb.2 h)
      iterate 11 refine cond_yes rfl ?_
      refine build148z ?_
      refine H.storeAll 0 rfl size148 rfl (grC_one _ _ _ _ _ _ _) ?_
      clear H
      intro w6 H
      refine H.loadAll 0 rfl agg148 size148 ?_
      refine ⟨rfl, ?_⟩
      exact .inl ⟨fun h => hno h.1, rfl, H.keeps⟩
    | true =>
      have hyes := hb.1 rfl
      by_cases h0 : k < 0
      · iterate 3 refine cond_no rfl ?_
        iterate 7 refine cond_yes (decide_eq_true (by assumption)) ?_
        refine cond_yes rfl ?_
        refine build148z ?_
        refine H.storeAll 0 rfl size148 rfl (grC_one _ _ _ _ _ _ _) ?_
        clear H
        intro w6 H
        refine H.loadAll 0 rfl agg148 size148 ?_
        refine ⟨rfl, ?_⟩
        exact .inl ⟨fun h => by omega, rfl, H.keeps⟩
      · by_cases h1 : (o.length : Int) - 2 < k
        · iterate 3 refine cond_no rfl ?_
          iterate 2 refine cond_no (decide_eq_false (by assumption)) ?_
          refine fieldAddr_by (fa148_0 _) ?_
          refine cond_no (decide_eq_false (by assumption)) ?_
          refine H.load 1 rfl agg32 rfl ?_
          refine cond_no (decide_eq_false (by assumption)) ?_
          refine len_sl Try.underlying32 ?_
          iterate 3 refine cond_no (decide_eq_false (by assumption)) ?_
          refine cond_yes (decide_eq_true (by omega)) ?_
          refine build148z ?_
          refine H.storeAll 0 rfl size148 rfl (grC_one _ _ _ _ _ _ _) ?_
          clear H
          intro w6 H
          refine H.loadAll 0 rfl agg148 size148 ?_
          refine ⟨rfl, ?_⟩
          exact .inl ⟨fun h => by omega, rfl, H.keeps⟩
        · iterate 3 refine cond_no rfl ?_
          iterate 2 refine cond_no (decide_eq_false (by assumption)) ?_
          refine fieldAddr_by (fa148_0 _) ?_
          refine cond_no (decide_eq_false (by assumption)) ?_
          refine H.load 1 rfl agg32 rfl ?_
          refine cond_no (decide_eq_false (by assumption)) ?_
          refine len_sl Try.underlying32 ?_
          iterate 3 refine cond_no (decide_eq_false (by assumption)) ?_
          refine cond_no (decide_eq_false (by omega)) ?_
          exact ⟨(), trivial, ⟨hyes, by omega, by omega⟩, H⟩
  clear H
  rintro ⟨⟩ u w2 ⟨⟨⟨P, hg⟩, h0, h1⟩, H⟩
  replace H : Hp _ _ _ _ _ := H
  obtain ⟨j, rfl⟩ := Int.eq_ofNat_of_zero_le h0
  refine H.loadAll 1 rfl agg148 size148 ?_
  refine call_fn (c196 hg j (by omega) Bo A co c hl _ (hS.same H.keeps) (hA.same H.keeps)) ?_
  rintro _ w3 ⟨vo, vn, N', r', rfl, hgr, hn⟩
  replace H := (H.addNew hn).split
  obtain ⟨Bo', co', rfl, _⟩ := own_form (H.get 0 rfl)
  obtain ⟨Bn, cn, rfl, _⟩ := own_form (H.get 1 rfl)
  refine Hp.storeAll H 2 rfl size148 rfl (grC_one _ _ _ _ _ _ _) ?_
  clear H
  intro w10 H
  refine H.loadAll 2 rfl agg148 size148 ?_
  refine ⟨rfl, ?_⟩
  have H : Hp w (fun _ => False) w10 ([own 3 1 (.slice Bo' (swL o j).length co') (swL o j).length (intsI (swL o j)), own 230 3 (.slice Bn N'.length cn) N'.length (flat encI (ndI N'))] ++ []) [] := Hp.sel H [0, 1] (by decide) rfl
  exact .inr ⟨P, j, hg, rfl, by omega, _, _, N', r', rfl, hgr, H.join.out⟩
end Go.Proofs.Ytjebpngdinbckaa
end

section
/- Graphs: knows. -/
namespace Go.Proofs.Ytjebpngdinbckaa
open Go.Dk
attribute [local irreducible] IntKind.wrap

theorem bin_eql230 {x y : I3} {xo yo : Operand} {w : World} {kk : Value → World → Prop} (h : kk (.bool (decide (x = y))) w) : binK Try.prog .eql 230 xo yo (.agg (encI x).toArray) (.agg (encI y).toArray) w kk := by
  obtain ⟨a, b, c⟩ := x
  obtain ⟨a', b', c'⟩ := y
  refine bin_eql_agg egt230 (run_eq230 a b c a' b' c') ?_
  have e : (a == a' && (b == b' && c == c')) = decide ((a, b, c) = (a', b', c')) := by
    rw [Bool.eq_iff_iff]; simp
  rw [e]; exact h
theorem graph_var (j : Nat) : IsGraph (fun a => a j) [⟨j, 0, 1⟩] 2 := by
  have hno : ∀ id, ¬ Rep (arN []) id (fun a : Asg => a j) := fun id h => by
    have h1 := rep_id h
    have hs : ∀ a : Asg, sem (arN []) id a = a j := h.says
    have hid : id = 0 ∨ id = 1 := by have := h1.2; simp at this; omega
    have e1 := hs fun _ => true
    have e2 := hs fun _ => false
    rw [sem_none (nd_end hid)] at e1 e2
    rw [e1] at e2; cases e2
  have hz : Bld [] (fun b : Asg => (fun a : Asg => a j) (upA b j false)) [] 0 := .found (rep_zero.congr fun a => (upA_same a j false).symm)
  have ho : Bld [] (fun b : Asg => (fun a : Asg => a j) (upA b j true)) [] 1 := .found (rep_one.congr fun a => (upA_same a j true).symm)
  have := Bld.node (k := j) hno (fun i hi a b => upA_ne a b (by omega)) (fun h => by
    have h2 : upA (fun _ => false) j true j = false := h (fun _ => false) true
    rw [upA_same] at h2; cases h2) hz ho
  exact this
theorem fn10 : FnS (natsI [0, 1]) 10 = fun a => a 0 := by
  funext a
  have hp := ptA_lt (natsI [0, 1]) a
  have hb := testBit_ptA (o := natsI [0, 1]) a (i := 0) (by decide)
  have hall : ∀ p, p < 4 → Nat.testBit 10 p = p.testBit 0 := by decide
  show Nat.testBit 10 (ptA (natsI [0, 1]) a) = a 0
  rw [hall _ hp, hb]; rfl
theorem ord01 : OrdI [0, 1] := by decide
theorem ent131 : enters Try.prog 131 = true := by kernel_rfl
theorem c131 (w : World) : Fun Try.prog 131 [] w fun v w' => v = .bool true ∧ Same w w' := by
  refine fun_of_W (N := 59) Try.func131 ent131 rfl rfl rfl (by simp) ?_
  have H := Hp.start0 w
  refine cut_rule (γ := Unit) _ rfl (fun _ => [(0, .bool false)]) (fun _ w' => Hp w (fun _ => False) w' [] []) ⟨(), ⟨rfl, trivial⟩, H⟩ ?_
  clear H
  rintro ⟨⟩ u w0 H
  replace H : Hp _ _ _ _ _ := H
  refine cut_rule (γ := Nat × Option Addr × Nat × Option Addr × Nat) _ rfl (fun (g1, _) => [(1, .pointer (some ⟨g1, 0, none⟩)), (2, .int .i64 0)]) (fun (g1, Bo, co, A, c) w' => Hp w (fun _ => False) w' [blk g1 148 (grC (.slice Bo 2 co) (.slice A 1 c) 2), own 3 1 (.slice Bo 2 co) 2 (intsI [0, 1]), own 230 3 (.slice A 1 c) 1 (flat encI [(0, 0, 1)])] []) ?_ ?_
  · refine build24_10 ?_
    refine H.buildSl T32 (n := 2) (cs := #[.int .i64 0, .int .i64 1]) (by omega) (by omega) (by kernel_rfl) ?_
    clear H
    intro g7 w1 H
    refine call_fn (c139 10 (by decide) [0, 1] (some ⟨g7, 0, none⟩) 2 (by decide) _ (blkS_Sl (n := 2) (sz := 1) (H.get 0 rfl) rfl (by decide))) ?_
    rintro _ w2 (⟨h, _⟩ | ⟨_, vo, vn, N, root, rfl, hgr, hn⟩)
    · exact absurd ⟨ord01, by decide +kernel⟩ h
    · rw [fn10] at hgr
      obtain ⟨rfl, rfl⟩ := graph_det (n := 1) (by decide) (fun a b hab => hab 0 (by decide)) hgr (graph_var 0)
      replace H := ((H.addNew hn).split).sel (L' := [own 3 1 vo 2 (intsI [0, 1]), own 230 3 vn 1 (flat encI [(0, 0, 1)])]) [0, 1] (by decide) rfl
      obtain ⟨Bo, co, rfl, _⟩ := own_form (H.get 0 rfl)
      obtain ⟨A, c, rfl, _⟩ := own_form (H.get 1 rfl)
      refine H.alloc 148 (cs := grC (.slice none 0 0) (.slice none 0 0) 0) zero148 rfl ?_
      clear H
      intro g1 w3 H
      refine H.storeAll 0 rfl size148 rfl (grC_one _ _ _ _ _ _ _) ?_
      clear H
      intro w4 H
      exact ⟨(g1, Bo, co, A, c), ⟨rfl, rfl, trivial⟩, H⟩
  clear H
  rintro ⟨g1, Bo, co, A, c⟩ u w1 H
  replace H : Hp _ _ _ _ _ := H
  have hright : RightG [0, 1] [(0, 0, 1)] 2 [⟨0, 0, 1⟩] := graph_right ord01 (F := fun a => a 0) (fun a b hab => hab 0 (by decide)) (graph_var 0)
  have hs1 := own_Sl (H.get 1 rfl)
  have hs2 := own_Sl (H.get 2 rfl)
  refine cut_rule (γ := Nat × Option Addr × Nat × Option Addr × Nat) _ rfl (fun (g3, _) => [(3, .pointer (some ⟨g3, 0, none⟩)), (4, .int .i64 0)]) (fun (g3, Bo', co', A', c') w' => Hp w (fun _ => False) w' [blk g3 148 (grC (.slice Bo' 2 co') (.slice A' 1 c') 2), own 230 3 (.slice A' 1 c') 1 (flat encI [(1, 0, 1)]), blk g1 148 (grC (.slice Bo 2 co) (.slice A 1 c) 2), own 3 1 (.slice Bo 2 co) 2 (intsI [0, 1]), own 230 3 (.slice A 1 c) 1 (flat encI [(0, 0, 1)])] []) ?_ ?_
  · refine H.loadAll 0 rfl agg148 size148 ?_
    refine call_fn (c132 [0, 1] [(0, 0, 1)] Bo A co c 2 0 (by decide) (by decide) _ hs1 hs2) ?_
    rintro _ w2 (⟨h, _⟩ | ⟨P, j, hP, hj, _, vo, vn, N', r', rfl, hgr, hn⟩)
    · exact absurd ⟨⟨_, hright⟩, by decide, by decide⟩ h
    · obtain rfl : j = 0 := by omega
      obtain rfl : P = [⟨0, 0, 1⟩] := ndI_inj (hP.nds.trans hright.nds.symm)
      have hsem : sem (arN [⟨0, 0, 1⟩]) 2 = fun a => a 0 := by
        have := (graph_made (n := 1) (by decide) (fun a b hab => hab 0 (by decide)) (graph_var 0)).ok
        funext a; exact this.says a
      rw [hsem] at hgr
      have hsw : swF 0 (fun a : Asg => a 0) = fun a => a 1 := rfl
      rw [hsw] at hgr
      obtain ⟨rfl, rfl⟩ := graph_det (n := 2) (by decide) (fun a b hab => hab 1 (by decide)) hgr (graph_var 1)
      replace H := ((H.addNew hn).split)
      obtain ⟨Bo', co', rfl, _⟩ := own_form (H.get 0 rfl)
      obtain ⟨A', c', rfl, _⟩ := own_form (H.get 1 rfl)
      refine Hp.alloc H 148 (cs := grC (.slice none 0 0) (.slice none 0 0) 0) zero148 rfl ?_
      clear H
      intro g3 w3 H
      refine H.storeAll 0 rfl size148 rfl (grC_one _ _ _ _ _ _ _) ?_
      clear H
      intro w4 H
      exact ⟨(g3, Bo', co', A', c'), ⟨rfl, rfl, trivial⟩, Hp.sel H [0, 2, 3, 4, 5] (by decide) rfl⟩
  clear H
  rintro ⟨g3, Bo', co', A', c'⟩ u w2 H
  replace H : Hp _ _ _ _ _ := H
  obtain ⟨gA', rfl⟩ := H.ownA 1 rfl (by decide)
  obtain ⟨gA, rfl⟩ := H.ownA 4 rfl (by decide)
  have hs1 := own_Sl (H.get 3 rfl)
  have hs2 := own_Sl (H.get 4 rfl)
  refine cond_yes rfl ?_
  refine fieldAddr_by (fa148_1 _) ?_
  refine cond_yes rfl ?_
  refine H.load 2 rfl agg146 rfl ?_
  refine cond_yes rfl ?_
  refine len_sl Try.underlying146 ?_
  iterate 3 refine cond_yes rfl ?_
  refine fieldAddr_by (fa148_1 _) ?_
  refine cond_yes rfl ?_
  refine H.load 2 rfl agg146 rfl ?_
  refine cond_yes rfl ?_
  refine idxAddr_sl Try.underlying146 size230 0 rfl (by decide) (o' := 0) (by decide) ?_
  refine cond_yes rfl ?_
  refine ld_agg (H.get 4 rfl) encI_length agg230 size230 0 rfl rfl ?_
  refine cond_yes rfl ?_
  refine build230 ?_
  refine cond_yes rfl ?_
  refine bin_eql230 (x := (0, 0, 1)) (y := (0, 0, 1)) ?_
  iterate 2 refine cond_yes rfl ?_
  refine fieldAddr_by (fa148_2 _) ?_
  refine cond_yes rfl ?_
  refine H.load 2 rfl agg3 rfl ?_
  iterate 6 refine cond_yes rfl ?_
  refine fieldAddr_by (fa148_1 _) ?_
  refine cond_yes rfl ?_
  refine H.load 0 rfl agg146 rfl ?_
  refine cond_yes rfl ?_
  refine len_sl Try.underlying146 ?_
  iterate 3 refine cond_yes rfl ?_
  refine fieldAddr_by (fa148_1 _) ?_
  refine cond_yes rfl ?_
  refine H.load 0 rfl agg146 rfl ?_
  refine cond_yes rfl ?_
  refine idxAddr_sl Try.underlying146 size230 0 rfl (by decide) (o' := 0) (by decide) ?_
  refine cond_yes rfl ?_
  refine fieldAddr_by (fa230_0 _ _) ?_
  refine cond_yes rfl ?_
  refine ld_fld (H.get 1 rfl) encI_length agg3 0 0 rfl rfl rfl ?_
  iterate 3 refine cond_yes rfl ?_
  refine H.loadAll 2 rfl agg148 size148 ?_
  refine cond_yes rfl ?_
  refine call_fn (c143 [0, 1] [(0, 0, 1)] Bo (some ⟨gA, 0, none⟩) co c 2 (by decide) (by decide) _ hs1 hs2) ?_
  rintro _ w3 ⟨b, rfl, hb, hk⟩
  replace H := H.same hk
  obtain rfl := hb.2 ⟨_, hright⟩
  refine cond_yes rfl ?_
  exact ⟨rfl, H.keeps⟩
end Go.Proofs.Ytjebpngdinbckaa
end

section
/- Graphs: the document's. -/
namespace Go.Proofs.Ytjebpngdinbckaa
open Go.Dk
attribute [local irreducible] IntKind.wrap

theorem agg232 : aggT Try.prog 232 = some true := by kernel_rfl
theorem size232 : sizeT Try.prog 232 = some 3 := by kernel_rfl
theorem zero232 : zeroT Try.prog 232 = some (k3 0 0 0) := by kernel_rfl
theorem agg153 : aggT Try.prog 153 = some false := by kernel_rfl
theorem size153 : sizeT Try.prog 153 = some 1 := by kernel_rfl
theorem agg155 : aggT Try.prog 155 = some true := by kernel_rfl
theorem size155 : sizeT Try.prog 155 = some 3 := by kernel_rfl
theorem zero155 : zeroT Try.prog 155 = some (grV (.slice none 0 0) (.slice none 0 0) 0) := by kernel_rfl
theorem T153 : SlT Try.prog 153 232 (k3 0 0 0) 3 24 := ⟨Try.underlying153, by kernel_rfl, rfl, by decide⟩
theorem run_eq232 (a b c a' b' c' : Int) (w : World) : (Op.equal 232 (k3 a b c) (k3 a' b' c')).run Try.prog w = .ok (a == a' && (b == b' && c == c')) w := by
  have hr : ∀ d', (Op.equalIn (d' + 2) 232 (k3 a b c) (k3 a' b' c')).run Try.prog w = .ok (a == a' && (b == b' && c == c')) w := by
    intro d'
    unfold k3
    rw [Op.equalIn]
    have i0 := run_eqInt Try.underlying3 d' a a'
    have i1 := run_eqInt Try.underlying3 d' b b'
    have i2 := run_eqInt Try.underlying3 d' c c'
    have p0 : ∀ (x y z : Int) w, (Go.part 3 #[.int .i64 x, .int .i64 y, .int .i64 z] 0).run Try.prog w = .ok (.int .i64 x) w := fun x y z w => run_part agg3 rfl w
    have p1 : ∀ (x y z : Int) w, (Go.part 3 #[.int .i64 x, .int .i64 y, .int .i64 z] 1).run Try.prog w = .ok (.int .i64 y) w := fun x y z w => run_part agg3 rfl w
    have p2 : ∀ (x y z : Int) w, (Go.part 3 #[.int .i64 x, .int .i64 y, .int .i64 z] 2).run Try.prog w = .ok (.int .i64 z) w := fun x y z w => run_part agg3 rfl w
    generalize (a == a') = b0 at *
    generalize (b == b') = b1 at *
    generalize (c == c') = b2 at *
    have hst : Try.prog.stoodInHeld 232 = false := by kernel_rfl
    simp only [Sem.run_bind, run_underlying Try.underlying232, Result.andThen_ok, Go.Dk.run_sizeOf size232, run_program, hst]
    cases b0 <;> cases b1 <;> cases b2 <;> simp [p0, p1, p2, i0, i1, i2]
  exact hr 9998
theorem egt232 : Try.prog.eqGuardType Try.prog.depth 232 = false := by kernel_rfl
theorem bin_neq232 {x y : I3} {xo yo : Operand} {w : World} {kk : Value → World → Prop} (h : kk (.bool (decide (x ≠ y))) w) : binK Try.prog .neq 232 xo yo (.agg (encI x).toArray) (.agg (encI y).toArray) w kk := by
  obtain ⟨a, b, c⟩ := x
  obtain ⟨a', b', c'⟩ := y
  refine bin_neq_agg egt232 (run_eq232 a b c a' b' c') ?_
  have e : (!(a == a' && (b == b' && c == c'))) = decide ((a, b, c) ≠ (a', b', c')) := by
    rw [Bool.eq_iff_iff]; simp
  rw [e]; exact h
theorem fa155_0 (g : Nat) (w : World) : (Instr.fieldAt 155 (.pointer (some ⟨g, 0, none⟩)) 0).run Try.prog w = .ok (.pointer (some ⟨g, 0, none⟩)) w := by kernel_rfl
theorem fa155_1 (g : Nat) (w : World) : (Instr.fieldAt 155 (.pointer (some ⟨g, 0, none⟩)) 1).run Try.prog w = .ok (.pointer (some ⟨g, 1, none⟩)) w := by kernel_rfl
theorem fa155_2 (g : Nat) (w : World) : (Instr.fieldAt 155 (.pointer (some ⟨g, 0, none⟩)) 2).run Try.prog w = .ok (.pointer (some ⟨g, 2, none⟩)) w := by kernel_rfl
theorem build155 {A : Option Addr} {n c : Nat} {r : Int} {w : World} {kk : Value → World → Prop} (h : kk (grV (.slice A n c) (.slice none 0 0) r) w) : buildK Try.prog 155 [(0, .slice A n c), (2, .int .i64 r)] w kk :=
  build_by (fun w => by kernel_rfl) h
theorem build155f {A B : Option Addr} {n c m d : Nat} {r : Int} {w : World} {kk : Value → World → Prop} (h : kk (grV (.slice A n c) (.slice B m d) r) w) : buildK Try.prog 155 [(0, .slice A n c), (1, .slice B m d), (2, .int .i64 r)] w kk :=
  build_by (fun w => by kernel_rfl) h
theorem build155z {w : World} {kk : Value → World → Prop} (h : kk (grV (.slice none 0 0) (.slice none 0 0) 0) w) : buildK Try.prog 155 [] w kk :=
  build_by (fun w => by kernel_rfl) h
theorem build232 {a b c : Int} {w : World} {kk : Value → World → Prop} (h : kk (k3 a b c) w) : buildK Try.prog 232 [(0, .int .i64 a), (1, .int .i64 b), (2, .int .i64 c)] w kk :=
  build_by (fun w => by kernel_rfl) h
theorem ent130 : enters Try.prog 130 = true := by kernel_rfl
theorem c130 (Bo A : Option Addr) (n co m c : Nat) (r : Int) (w : World) : Fun Try.prog 130 [grV (.slice Bo n co) (.slice A m c) r] w fun v w' => v = .bool (decide (20 < n ∨ 60 < m)) ∧ Same w w' := by
  refine fun_of_W (N := 13) Try.func130 ent130 rfl rfl rfl (by simp) ?_
  have H := Hp.start0 w
  refine cut_rule (γ := Nat) _ rfl (fun g1 => [(1, .pointer (some ⟨g1, 0, none⟩))]) (fun g1 w' => Hp w (fun _ => False) w' [blk g1 148 (grC (.slice Bo n co) (.slice A m c) r)] []) ?_ ?_
  · refine H.box 148 _ (cs := grC (.slice Bo n co) (.slice A m c) r) rfl ?_
    clear H
    intro g1 w1 H
    exact ⟨g1, ⟨rfl, trivial⟩, H⟩
  clear H
  rintro g1 u w1 H
  replace H : Hp _ _ _ _ _ := H
  by_cases h1 : 20 < n
  · have h1' : (n : Int) > 20 := by omega
    rw [decide_eq_true (Or.inl h1)]
    refine fieldAddr_by (fa148_0 _) ?_
    refine H.load 0 rfl agg32 rfl ?_
    refine len_sl Try.underlying32 ?_
    iterate 5 refine cond_yes (decide_eq_true (by assumption)) ?_
    exact ⟨rfl, H.keeps⟩
  · have h1' : ¬ (n : Int) > 20 := by omega
    by_cases h2 : 60 < m
    · have h2' : (m : Int) > 60 := by omega
      rw [decide_eq_true (Or.inr h2)]
      refine fieldAddr_by (fa148_0 _) ?_
      refine H.load 0 rfl agg32 rfl ?_
      refine len_sl Try.underlying32 ?_
      refine cond_no (decide_eq_false (by assumption)) ?_
      refine fieldAddr_by (fa148_1 _) ?_
      refine cond_no (decide_eq_false (by assumption)) ?_
      refine H.load 0 rfl agg146 rfl ?_
      refine cond_no (decide_eq_false (by assumption)) ?_
      refine len_sl Try.underlying146 ?_
      iterate 2 refine cond_no (decide_eq_false (by assumption)) ?_
      refine ⟨congrArg Value.bool ?_, H.keeps⟩
      exact decide_eq_true h2'
    · have h2' : ¬ (m : Int) > 60 := by omega
      rw [decide_eq_false (by omega)]
      refine fieldAddr_by (fa148_0 _) ?_
      refine H.load 0 rfl agg32 rfl ?_
      refine len_sl Try.underlying32 ?_
      refine cond_no (decide_eq_false (by assumption)) ?_
      refine fieldAddr_by (fa148_1 _) ?_
      refine cond_no (decide_eq_false (by assumption)) ?_
      refine H.load 0 rfl agg146 rfl ?_
      refine cond_no (decide_eq_false (by assumption)) ?_
      refine len_sl Try.underlying146 ?_
      iterate 2 refine cond_no (decide_eq_false (by assumption)) ?_
      refine ⟨congrArg Value.bool ?_, H.keeps⟩
      exact decide_eq_false h2'
theorem ent134 : enters Try.prog 134 = true := by kernel_rfl
theorem c134 (N : List I3) (Bo A : Option Addr) (n co c : Nat) (r : Int) (hl : N.length ≤ 1000) (w : World) (hA : Sl w (.slice A N.length c) 3 N.length (flat encI N)) :
    Fun Try.prog 134 [grV (.slice Bo n co) (.slice A N.length c) r] w fun v w' => ∃ B d, v = grV (.slice Bo n co) (.slice B N.length d) r ∧ NewR w w' (own 232 3 (.slice B N.length d) N.length (flat encI N)) := by
  refine fun_of_W (N := 36) Try.func134 ent134 rfl rfl rfl (by simp) ?_
  have H := Hp.start0 w
  refine cut_rule (γ := Nat × Nat) _ rfl (fun (g1, g2) => [(1, .pointer (some ⟨g1, 0, none⟩)), (2, .pointer (some ⟨g2, 0, none⟩))]) (fun (g1, g2) w' => Hp w (fun _ => False) w' [blk g1 148 (grC (.slice Bo n co) (.slice A N.length c) r), blk g2 155 (grC (.slice none 0 0) (.slice none 0 0) 0)] []) ?_ ?_
  · refine H.box 148 _ (cs := grC (.slice Bo n co) (.slice A N.length c) r) rfl ?_
    clear H
    intro g1 w1 H
    refine H.alloc 155 (cs := grC (.slice none 0 0) (.slice none 0 0) 0) zero155 rfl ?_
    clear H
    intro g2 w2 H
    exact ⟨(g1, g2), ⟨rfl, rfl, trivial⟩, H.front 1 rfl⟩
  clear H
  rintro ⟨g1, g2⟩ u w1 H
  replace H : Hp _ _ _ _ _ := H
  refine cut_rule (γ := Nat) _ rfl (fun g3 => [(3, .pointer (some ⟨g3, 0, none⟩))]) (fun g3 w' => Hp w (fun _ => False) w' [own 232 3 (.slice none 0 0) 0 (flat encI []), blk g3 155 (grC (.slice Bo n co) (.slice none 0 0) r), blk g1 148 (grC (.slice Bo n co) (.slice A N.length c) r), blk g2 155 (grC (.slice none 0 0) (.slice none 0 0) 0)] []) ?_ ?_
  · refine fieldAddr_by (fa148_0 _) ?_
    refine H.load 0 rfl agg32 rfl ?_
    refine fieldAddr_by (fa148_2 _) ?_
    refine H.load 0 rfl agg3 rfl ?_
    refine build155 ?_
    refine H.alloc 155 (cs := grC (.slice none 0 0) (.slice none 0 0) 0) zero155 rfl ?_
    clear H
    intro g3 w2 H
    refine H.storeAll 0 rfl size155 rfl (grC_one _ _ _ _ _ _ _) ?_
    clear H
    intro w3 H
    exact ⟨g3, ⟨rfl, trivial⟩, H.ownNil 232 3⟩
  clear H
  rintro g3 u w2 H
  replace H : Hp _ _ _ _ _ := H
  refine cut_rule (γ := Option Addr × Nat) _ rfl (fun _ => []) (fun (B, d) w' => Hp w (fun _ => False) w' [own 232 3 (.slice B N.length d) N.length (flat encI N), blk g3 155 (grC (.slice Bo n co) (.slice B N.length d) r), blk g1 148 (grC (.slice Bo n co) (.slice A N.length c) r), blk g2 155 (grC (.slice none 0 0) (.slice none 0 0) 0)] []) ?_ ?_
  · refine loop_rule (γ := Nat × Option Addr × Nat) _ rfl (fun (i, _) => [(4, .int .i64 (i : Int))]) (fun (i, B, d) w' => i ≤ N.length ∧ Hp w (fun _ => False) w' [own 232 3 (.slice B i d) i (flat encI (N.take i)), blk g3 155 (grC (.slice Bo n co) (.slice B i d) r), blk g1 148 (grC (.slice Bo n co) (.slice A N.length c) r), blk g2 155 (grC (.slice none 0 0) (.slice none 0 0) 0)] []) (fun (i, _) => N.length - i) (0, none, 0) ⟨rfl, trivial⟩ ⟨Nat.zero_le _, H⟩ ?_
    clear H
    rintro ⟨i, B, d⟩ u w3 ⟨hi, H⟩
    replace H : Hp _ _ _ _ _ := H
    refine fieldAddr_by (fa148_1 _) ?_
    refine H.load 2 rfl agg146 rfl ?_
    refine len_sl Try.underlying146 ?_
    refine cond_dec (fun h7 => ?_) (fun h7 => ?_)
    · have hiN : i < N.length := by omega
      obtain ⟨x, hx⟩ : ∃ x, N[i]? = some x := ⟨_, List.getElem?_eq_getElem hiN⟩
      obtain ⟨gA, oA, rfl⟩ := hA.A (by omega)
      refine cut_rule (γ := Option Addr × Nat) _ rfl (fun _ => []) (fun (B, d) w' => Hp w (fun _ => False) w' [own 232 3 (.slice B (i + 1) d) (i + 1) (flat encI (N.take (i + 1))), blk g3 155 (grC (.slice Bo n co) (.slice B (i + 1) d) r), blk g1 148 (grC (.slice Bo n co) (.slice (some ⟨gA, oA, none⟩) N.length c) r), blk g2 155 (grC (.slice none 0 0) (.slice none 0 0) 0)] []) ?_ ?_
      · refine cut_rule (γ := Nat) _ rfl (fun g5 => [(5, .pointer (some ⟨g5, 0, none⟩))]) (fun g5 w' => Hp w (fun _ => False) w' [own 232 3 (.slice B i d) i (flat encI (N.take i)), blk g3 155 (grC (.slice Bo n co) (.slice B i d) r), blk g1 148 (grC (.slice Bo n co) (.slice (some ⟨gA, oA, none⟩) N.length c) r), blk g2 155 (grC (.slice none 0 0) (.slice none 0 0) 0), blk g5 230 (encI x).toArray] []) ?_ ?_
        · refine fieldAddr_by (fa148_1 _) ?_
          refine H.load 2 rfl agg146 rfl ?_
          refine idxAddr_sl Try.underlying146 size230 i rfl hiN (o' := oA + i * 3) (by omega) ?_
          refine Sl.loadAgg H hA encI_length agg230 size230 i rfl hx ?_
          refine H.alloc 230 zero230 rfl ?_
          clear H
          intro g5 w4 H
          refine H.storeAll 0 rfl size230 rfl (fun v hv => encI_one x v hv) ?_
          clear H
          intro w5 H
          exact ⟨g5, ⟨rfl, trivial⟩, H.sel [1, 2, 3, 4, 0] (by decide) rfl⟩
        clear H
        rintro g5 u w4 H
        replace H : Hp _ _ _ _ _ := H
        refine fieldAddr_by (fa155_1 _) ?_
        refine H.load 1 rfl agg153 rfl ?_
        refine fieldAddr_by (fa230_0 _ _) ?_
        refine H.load 4 rfl agg3 rfl ?_
        refine fieldAddr_by (fa230_1 _ _) ?_
        refine H.load 4 rfl agg3 rfl ?_
        refine fieldAddr_by (fa230_2 _ _) ?_
        refine H.load 4 rfl agg3 rfl ?_
        refine build232 ?_
        refine H.buildSl T153 (n := 1) (cs := (encI x).toArray) (by omega) (by omega) (by kernel_rfl) ?_
        clear H
        intro g32 w5 H
        refine H.appendBlk 1 0 T153 rfl rfl rfl (fun v hv => encI_one x v hv) (by omega) (by omega) ?_
        clear H
        intro A33 d33 w6 H
        refine fieldAddr_by (fa155_1 _) ?_
        refine H.store 2 rfl size153 (by show 1 < 3; omega) rfl ?_
        clear H
        intro w7 H
        have e : flat encI (N.take i) ++ encI x = flat encI (N.take (i + 1)) := by rw [← flat_snoc, List.take_add_one, hx]; rfl
        have H : Hp w (fun _ => False) w7 [own 232 3 (.slice A33 (i + 1) d33) (i + 1) (flat encI (N.take i) ++ encI x), blk g3 155 (grC (.slice Bo n co) (.slice A33 (i + 1) d33) r), blk g1 148 (grC (.slice Bo n co) (.slice (some ⟨gA, oA, none⟩) N.length c) r), blk g2 155 (grC (.slice none 0 0) (.slice none 0 0) 0)] [] := H.sel [1, 2, 3, 4] (by decide) rfl
        rw [e] at H
        exact ⟨(A33, d33), trivial, H⟩
      · clear H
        rintro ⟨B', d'⟩ u w4 H
        exact ⟨(i + 1, B', d'), by show N.length - (i + 1) < N.length - i; omega, ⟨up (by omega), trivial⟩, by show i + 1 ≤ N.length; omega, H⟩
    · obtain rfl : i = N.length := by omega
      rw [List.take_length] at H
      exact ⟨(B, d), trivial, H⟩
  clear H
  rintro ⟨B, d⟩ u w3 H
  replace H : Hp _ _ _ _ _ := H
  refine H.loadAll 1 rfl agg155 size155 ?_
  refine H.storeAll 3 rfl size155 rfl (grC_one _ _ _ _ _ _ _) ?_
  clear H
  intro w4 H
  refine H.loadAll 3 rfl agg155 size155 ?_
  refine ⟨rfl, ?_⟩
  exact ⟨B, d, rfl, Hp.out H⟩
end Go.Proofs.Ytjebpngdinbckaa
end

section
/- Graphs: Same. -/
namespace Go.Proofs.Ytjebpngdinbckaa
open Go.Dk
attribute [local irreducible] IntKind.wrap

theorem ent135 : enters Try.prog 135 = true := by kernel_rfl
theorem c135 (oa ob : List Int) (Oa Ob : Option Addr) (ca cb : Nat) (N M : List I3) (A B : Option Addr) (c d : Nat) (ra rb : Int) (w : World) (hoa : oa.length ≤ 1000000) (hN : N.length ≤ 1000000) (hob : ob.length ≤ 1000000) (hM : M.length ≤ 1000000)
    (hOa : Sl w (.slice Oa oa.length ca) 1 oa.length (intsI oa)) (hOb : Sl w (.slice Ob ob.length cb) 1 ob.length (intsI ob)) (hA : Sl w (.slice A N.length c) 3 N.length (flat encI N)) (hB : Sl w (.slice B M.length d) 3 M.length (flat encI M)) :
    Fun Try.prog 135 [grV (.slice Oa oa.length ca) (.slice A N.length c) ra, grV (.slice Ob ob.length cb) (.slice B M.length d) rb] w fun v w' => v = .bool (decide (oa = ob ∧ N = M ∧ ra = rb)) ∧ Same w w' := by
  refine fun_of_W (N := 66) Try.func135 ent135 rfl rfl rfl (by simp) ?_
  have H := Hp.start0 w
  refine cut_rule (γ := Nat × Nat) _ rfl (fun (g2, g3) => [(2, .pointer (some ⟨g2, 0, none⟩)), (3, .pointer (some ⟨g3, 0, none⟩))]) (fun (g2, g3) w' => Hp w (fun _ => False) w' [blk g3 155 (grC (.slice Ob ob.length cb) (.slice B M.length d) rb), blk g2 155 (grC (.slice Oa oa.length ca) (.slice A N.length c) ra)] []) ?_ ?_
  · refine H.box 155 _ (cs := grC (.slice Oa oa.length ca) (.slice A N.length c) ra) rfl ?_
    clear H
    intro g2 w1 H
    refine H.box 155 _ (cs := grC (.slice Ob ob.length cb) (.slice B M.length d) rb) rfl ?_
    clear H
    intro g3 w2 H
    exact ⟨(g2, g3), ⟨rfl, rfl, trivial⟩, H⟩
  clear H
  rintro ⟨g2, g3⟩ u w1 H
  replace H : Hp _ _ _ _ _ := H
  refine cut_rule (γ := Unit) _ rfl (fun _ => []) (fun _ w' => (oa.length = ob.length ∧ N.length = M.length ∧ ra = rb) ∧ Hp w (fun _ => False) w' [blk g3 155 (grC (.slice Ob ob.length cb) (.slice B M.length d) rb), blk g2 155 (grC (.slice Oa oa.length ca) (.slice A N.length c) ra)] []) ?_ ?_
  · by_cases h1 : oa.length = ob.length
    · by_cases h2 : N.length = M.length
      · by_cases h3 : ra = rb
        · refine fieldAddr_by (fa155_0 _) ?_
          refine H.load 1 rfl agg32 rfl ?_
          refine len_sl Try.underlying32 ?_
          refine fieldAddr_by (fa155_0 _) ?_
          refine H.load 0 rfl agg32 rfl ?_
          refine len_sl Try.underlying32 ?_
          refine cond_no (bne_eq_false_iff_eq.2 (by omega)) ?_
          refine fieldAddr_by (fa155_1 _) ?_
          refine cond_no (bne_eq_false_iff_eq.2 (by omega)) ?_
          refine H.load 1 rfl agg153 rfl ?_
          refine cond_no (bne_eq_false_iff_eq.2 (by omega)) ?_
          refine len_sl Try.underlying153 ?_
          refine cond_no (bne_eq_false_iff_eq.2 (by omega)) ?_
          refine fieldAddr_by (fa155_1 _) ?_
          refine cond_no (bne_eq_false_iff_eq.2 (by omega)) ?_
          refine H.load 0 rfl agg153 rfl ?_
          refine cond_no (bne_eq_false_iff_eq.2 (by omega)) ?_
          refine len_sl Try.underlying153 ?_
          iterate 3 refine cond_no (bne_eq_false_iff_eq.2 (by omega)) ?_
          refine fieldAddr_by (fa155_2 _) ?_
          refine cond_no (bne_eq_false_iff_eq.2 (by omega)) ?_
          refine H.load 1 rfl agg3 rfl ?_
          refine cond_no (bne_eq_false_iff_eq.2 (by omega)) ?_
          refine fieldAddr_by (fa155_2 _) ?_
          refine cond_no (bne_eq_false_iff_eq.2 (by omega)) ?_
          refine H.load 0 rfl agg3 rfl ?_
          iterate 3 refine cond_no (bne_eq_false_iff_eq.2 (by omega)) ?_
          exact ⟨(), trivial, ⟨h1, h2, h3⟩, H⟩
        · refine fieldAddr_by (fa155_0 _) ?_
          refine H.load 1 rfl agg32 rfl ?_
          refine len_sl Try.underlying32 ?_
          refine fieldAddr_by (fa155_0 _) ?_
          refine H.load 0 rfl agg32 rfl ?_
          refine len_sl Try.underlying32 ?_
          refine cond_no (bne_eq_false_iff_eq.2 (by omega)) ?_
          refine fieldAddr_by (fa155_1 _) ?_
          refine cond_no (bne_eq_false_iff_eq.2 (by omega)) ?_
          refine H.load 1 rfl agg153 rfl ?_
          refine cond_no (bne_eq_false_iff_eq.2 (by omega)) ?_
          refine len_sl Try.underlying153 ?_
          refine cond_no (bne_eq_false_iff_eq.2 (by omega)) ?_
          refine fieldAddr_by (fa155_1 _) ?_
          refine cond_no (bne_eq_false_iff_eq.2 (by omega)) ?_
          refine H.load 0 rfl agg153 rfl ?_
          refine cond_no (bne_eq_false_iff_eq.2 (by omega)) ?_
          refine len_sl Try.underlying153 ?_
          iterate 3 refine cond_no (bne_eq_false_iff_eq.2 (by omega)) ?_
          refine fieldAddr_by (fa155_2 _) ?_
          refine cond_no (bne_eq_false_iff_eq.2 (by omega)) ?_
          refine H.load 1 rfl agg3 rfl ?_
          refine cond_no (bne_eq_false_iff_eq.2 (by omega)) ?_
          refine fieldAddr_by (fa155_2 _) ?_
          refine cond_no (bne_eq_false_iff_eq.2 (by omega)) ?_
          refine H.load 0 rfl agg3 rfl ?_
          iterate 2 refine cond_no (bne_eq_false_iff_eq.2 (by omega)) ?_
          refine cond_yes (bne_iff_ne.2 (by omega)) ?_
          refine ⟨congrArg Value.bool ?_, H.keeps⟩
          exact (decide_eq_false fun h => h3 h.2.2).symm
      · refine fieldAddr_by (fa155_0 _) ?_
        refine H.load 1 rfl agg32 rfl ?_
        refine len_sl Try.underlying32 ?_
        refine fieldAddr_by (fa155_0 _) ?_
        refine H.load 0 rfl agg32 rfl ?_
        refine len_sl Try.underlying32 ?_
        refine cond_no (bne_eq_false_iff_eq.2 (by omega)) ?_
        refine fieldAddr_by (fa155_1 _) ?_
        refine cond_no (bne_eq_false_iff_eq.2 (by omega)) ?_
        refine H.load 1 rfl agg153 rfl ?_
        refine cond_no (bne_eq_false_iff_eq.2 (by omega)) ?_
        refine len_sl Try.underlying153 ?_
        refine cond_no (bne_eq_false_iff_eq.2 (by omega)) ?_
        refine fieldAddr_by (fa155_1 _) ?_
        refine cond_no (bne_eq_false_iff_eq.2 (by omega)) ?_
        refine H.load 0 rfl agg153 rfl ?_
        refine cond_no (bne_eq_false_iff_eq.2 (by omega)) ?_
        refine len_sl Try.underlying153 ?_
        iterate 2 refine cond_no (bne_eq_false_iff_eq.2 (by omega)) ?_
        iterate 6 refine cond_yes (bne_iff_ne.2 (by omega)) ?_
        refine cond_yes rfl ?_
        refine ⟨congrArg Value.bool ?_, H.keeps⟩
        exact (decide_eq_false fun h => h2 (by rw [h.2.1])).symm
    · refine fieldAddr_by (fa155_0 _) ?_
      refine H.load 1 rfl agg32 rfl ?_
      refine len_sl Try.underlying32 ?_
      refine fieldAddr_by (fa155_0 _) ?_
      refine H.load 0 rfl agg32 rfl ?_
      refine len_sl Try.underlying32 ?_
      iterate 8 refine cond_yes (bne_iff_ne.2 (by omega)) ?_
      iterate 7 refine cond_yes rfl ?_
      refine ⟨congrArg Value.bool ?_, H.keeps⟩
      exact (decide_eq_false fun h => h1 (by rw [h.1])).symm
  clear H
  rintro ⟨⟩ u w2 ⟨⟨hlo, hln, rfl⟩, H⟩
  replace H : Hp _ _ _ _ _ := H
  refine cut_rule (γ := Unit) _ rfl (fun _ => []) (fun _ w' => oa = ob ∧ Hp w (fun _ => False) w' [blk g3 155 (grC (.slice Ob ob.length cb) (.slice B M.length d) ra), blk g2 155 (grC (.slice Oa oa.length ca) (.slice A N.length c) ra)] []) ?_ ?_
  · refine loop_rule (γ := Nat) _ rfl (fun i => [(5, .int .i64 (i : Int))]) (fun i w' => (i ≤ oa.length ∧ oa.take i = ob.take i) ∧ Hp w (fun _ => False) w' [blk g3 155 (grC (.slice Ob ob.length cb) (.slice B M.length d) ra), blk g2 155 (grC (.slice Oa oa.length ca) (.slice A N.length c) ra)] []) (fun i => oa.length - i) 0 ⟨rfl, trivial⟩ ⟨⟨Nat.zero_le _, rfl⟩, H⟩ ?_
    clear H
    rintro i u w3 ⟨⟨hi, htk⟩, H⟩
    replace H : Hp _ _ _ _ _ := H
    refine fieldAddr_by (fa155_0 _) ?_
    refine H.load 1 rfl agg32 rfl ?_
    refine len_sl Try.underlying32 ?_
    refine cond_dec (fun h7 => ?_) (fun h7 => ?_)
    · have hiN : i < oa.length := by omega
      obtain ⟨gA, oA, rfl⟩ := hOa.A (by omega)
      obtain ⟨gB, oB, rfl⟩ := hOb.A (by omega)
      obtain ⟨x, hx⟩ : ∃ x, oa[i]? = some x := ⟨_, List.getElem?_eq_getElem hiN⟩
      obtain ⟨y, hy⟩ : ∃ y, ob[i]? = some y := ⟨_, List.getElem?_eq_getElem (by omega)⟩
      have hgx : (intsI oa)[i]? = some (.int .i64 x) := by rw [intsI, List.getElem?_map, hx]; rfl
      have hgy : (intsI ob)[i]? = some (.int .i64 y) := by rw [intsI, List.getElem?_map, hy]; rfl
      refine H.draw fol (by kernel_rfl) ?_
      clear H
      intro w4 H
      refine quiet _ (fun w H => fieldAddr_by (fa155_0 _) ⟨rfl, rfl⟩) ?_
      refine quiet _ (fun w H => H.load 1 rfl agg32 rfl ⟨rfl, rfl⟩) ?_
      refine quiet _ (fun w H => idxAddr_sl Try.underlying32 (s := 1) size3 i rfl hiN (o' := oA + i) (by omega) ⟨rfl, rfl⟩) ?_
      refine quiet _ (fun w H => H.loadSl (i := i) hOa agg3 _ rfl hgx ⟨rfl, rfl⟩) ?_
      refine quiet _ (fun w H => fieldAddr_by (fa155_0 _) ⟨rfl, rfl⟩) ?_
      refine quiet _ (fun w H => H.load 0 rfl agg32 rfl ⟨rfl, rfl⟩) ?_
      refine quiet _ (fun w H => idxAddr_sl Try.underlying32 (s := 1) size3 i rfl (by omega) (o' := oB + i) (by omega) ⟨rfl, rfl⟩) ?_
      refine quiet _ (fun w H => H.loadSl (i := i) hOb agg3 _ rfl hgy ⟨rfl, rfl⟩) ?_
      by_cases hxy : x = y
      · refine cond_no (by simpa using hxy) ?_
        exact ⟨i + 1, by show oa.length - (i + 1) < oa.length - i; omega, ⟨up (by omega), trivial⟩, ⟨by show i + 1 ≤ oa.length; omega, by rw [List.take_add_one, List.take_add_one, htk, hx, hy, hxy]⟩, H⟩
      · refine cond_yes (by simpa using hxy) ?_
        refine ⟨congrArg Value.bool ?_, H.keeps⟩
        symm
        refine decide_eq_false fun h => hxy ?_
        rw [h.1, hy] at hx
        injection hx with hx
        exact hx.symm
    · refine ⟨(), trivial, ?_, H⟩
      rw [List.take_of_length_le (by omega), List.take_of_length_le (by omega)] at htk
      exact htk
  clear H
  rintro ⟨⟩ u w3 ⟨hoo, H⟩
  replace H : Hp _ _ _ _ _ := H
  refine cut_rule (γ := Unit) _ rfl (fun _ => []) (fun _ w' => N = M ∧ Hp w (fun _ => False) w' [blk g3 155 (grC (.slice Ob ob.length cb) (.slice B M.length d) ra), blk g2 155 (grC (.slice Oa oa.length ca) (.slice A N.length c) ra)] []) ?_ ?_
  · refine loop_rule (γ := Nat) _ rfl (fun i => [(6, .int .i64 (i : Int))]) (fun i w' => (i ≤ N.length ∧ N.take i = M.take i) ∧ Hp w (fun _ => False) w' [blk g3 155 (grC (.slice Ob ob.length cb) (.slice B M.length d) ra), blk g2 155 (grC (.slice Oa oa.length ca) (.slice A N.length c) ra)] []) (fun i => N.length - i) 0 ⟨rfl, trivial⟩ ⟨⟨Nat.zero_le _, rfl⟩, H⟩ ?_
    clear H
    rintro i u w3 ⟨⟨hi, htk⟩, H⟩
    replace H : Hp _ _ _ _ _ := H
    refine fieldAddr_by (fa155_1 _) ?_
    refine H.load 1 rfl agg153 rfl ?_
    refine len_sl Try.underlying153 ?_
    refine cond_dec (fun h7 => ?_) (fun h7 => ?_)
    · have hiN : i < N.length := by omega
      obtain ⟨gA, oA, rfl⟩ := hA.A (by omega)
      obtain ⟨gB, oB, rfl⟩ := hB.A (by omega)
      obtain ⟨x, hx⟩ : ∃ x, N[i]? = some x := ⟨_, List.getElem?_eq_getElem hiN⟩
      obtain ⟨y, hy⟩ : ∃ y, M[i]? = some y := ⟨_, List.getElem?_eq_getElem (by omega)⟩
      refine H.draw fol (by kernel_rfl) ?_
      clear H
      intro w4 H
      refine quiet _ (fun w H => fieldAddr_by (fa155_1 _) ⟨rfl, rfl⟩) ?_
      refine quiet _ (fun w H => H.load 1 rfl agg153 rfl ⟨rfl, rfl⟩) ?_
      refine quiet _ (fun w H => idxAddr_sl Try.underlying153 size232 i rfl hiN (o' := oA + i * 3) (by omega) ⟨rfl, rfl⟩) ?_
      refine quiet _ (fun w H => Sl.loadAgg H hA encI_length agg232 size232 i rfl hx ⟨rfl, rfl⟩) ?_
      refine quiet _ (fun w H => fieldAddr_by (fa155_1 _) ⟨rfl, rfl⟩) ?_
      refine quiet _ (fun w H => H.load 0 rfl agg153 rfl ⟨rfl, rfl⟩) ?_
      refine quiet _ (fun w H => idxAddr_sl Try.underlying153 size232 i rfl (by omega) (o' := oB + i * 3) (by omega) ⟨rfl, rfl⟩) ?_
      refine quiet _ (fun w H => Sl.loadAgg H hB encI_length agg232 size232 i rfl hy ⟨rfl, rfl⟩) ?_
      refine quiet _ (fun w H => bin_neq232 ⟨rfl, rfl⟩) ?_
      by_cases hxy : x = y
      · refine cond_no (decide_eq_false (by simpa using hxy)) ?_
        exact ⟨i + 1, by show N.length - (i + 1) < N.length - i; omega, ⟨up (by omega), trivial⟩, ⟨by show i + 1 ≤ N.length; omega, by rw [List.take_add_one, List.take_add_one, htk, hx, hy, hxy]⟩, H⟩
      · refine cond_yes (decide_eq_true hxy) ?_
        refine ⟨congrArg Value.bool ?_, H.keeps⟩
        symm
        refine decide_eq_false fun h => hxy ?_
        rw [h.2.1, hy] at hx
        injection hx with hx
        exact hx.symm
    · refine ⟨(), trivial, ?_, H⟩
      rw [List.take_of_length_le (by omega), List.take_of_length_le (by omega)] at htk
      exact htk
  clear H
  rintro ⟨⟩ u w4 ⟨hNM, H⟩
  replace H : Hp _ _ _ _ _ := H
  exact ⟨congrArg Value.bool (decide_eq_true ⟨hoo, hNM, rfl⟩).symm, H.keeps⟩
end Go.Proofs.Ytjebpngdinbckaa
end

section
/- Graphs: the document's sides, what an id says, the set. -/
namespace Go.Proofs.Ytjebpngdinbckaa
open Go.Dk
attribute [local irreducible] IntKind.wrap

def sideL (l : List Bool) (i : Nat) (b : Bool) : List Bool := (List.range 256).map fun p => l.getD (toP p i b) false
theorem sideL_length (l : List Bool) (i : Nat) (b : Bool) : (sideL l i b).length = 256 := by simp [sideL]
theorem upF_done (f g : Nat → Bool) : upF f g 256 = (List.range 256).map f := by
  unfold upF
  refine List.map_congr_left fun p hp => ?_
  rw [if_pos (List.mem_range.1 hp)]
theorem upF_false (f : Nat → Bool) : bls (upF f (fun _ => false) 0) = List.replicate 256 (.bool false) := by
  refine List.eq_replicate_iff.2 ⟨by rw [bls, List.length_map, upF_length], fun b hb => ?_⟩
  unfold bls upF at hb
  rw [List.map_map] at hb
  obtain ⟨p, _, rfl⟩ := List.mem_map.1 hb
  show Value.bool (if p < 0 then f p else false) = _
  rw [if_neg (by omega)]
theorem ent217 : enters Try.prog 217 = true := by kernel_rfl
theorem c217 (l : List Bool) (hl : l.length = 256) (A : Option Addr) (c : Nat) (i : Nat) (hi : i < 8) (b : Bool) (w : World) (hA : Sl w (.slice A 256 c) 1 256 (bls l)) :
    Fun Try.prog 217 [.slice A 256 c, .int .i64 (i : Int), .bool b] w fun v w' => ∃ B d, v = .slice B 256 d ∧ NewR w w' (own 4 1 (.slice B 256 d) 256 (bls (sideL l i b))) := by
  refine fun_of_W (N := 54) Try.func217 ent217 rfl rfl rfl (by simp) ?_
  have H := Hp.start0 w
  obtain ⟨gA, oA, rfl⟩ := hA.A (by decide)
  refine cut_rule (γ := Unit) _ rfl (fun _ => []) (fun _ w' => Hp w (fun _ => False) w' [] []) ⟨(), trivial, H⟩ ?_
  clear H
  rintro ⟨⟩ u w1 H
  replace H : Hp _ _ _ _ _ := H
  refine cut_rule (γ := Unit) _ rfl (fun _ => [(7, .int .i64 1)]) (fun _ w' => Hp w (fun _ => False) w' [] []) ⟨(), ⟨rfl, trivial⟩, H⟩ ?_
  clear H
  rintro ⟨⟩ u w1 H
  replace H : Hp _ _ _ _ _ := H
  have hp7 : 2 ^ i ≤ 128 := by have := Nat.pow_le_pow_right (n := 2) (by decide) (show i ≤ 7 by omega); simpa using this
  refine cut_rule (γ := Unit) _ rfl (fun _ => [(7, .int .i64 ((2 ^ i : Nat) : Int))]) (fun _ w' => Hp w (fun _ => False) w' [] []) ?_ ?_
  · refine loop_rule (γ := Nat) _ rfl (fun j => [(8, .int .i64 (j : Int)), (7, .int .i64 ((2 ^ j : Nat) : Int))]) (fun j w' => j ≤ i ∧ Hp w (fun _ => False) w' [] []) (fun j => i - j) 0 ⟨rfl, rfl, trivial⟩ ⟨Nat.zero_le _, H⟩ ?_
    clear H
    rintro j u w2 ⟨hj, H⟩
    replace H : Hp _ _ _ _ _ := H
    refine cond_dec (fun h9 => ?_) (fun h9 => ?_)
    · have h2 : 2 ^ (j + 1) ≤ 2 ^ i := Nat.pow_le_pow_right (by decide) (by omega)
      have e2 : 2 ^ (j + 1) = 2 ^ j * 2 := Nat.pow_succ ..
      exact ⟨j + 1, by show i - (j + 1) < i - j; omega, ⟨up (by omega), congrArg (Value.int .i64) (by rw [wrap_i64_in (by omega) (by omega)]; omega), trivial⟩, by show j + 1 ≤ i; omega, H⟩
    · obtain rfl : j = i := by omega
      exact ⟨(), ⟨rfl, trivial⟩, H⟩
  clear H
  rintro ⟨⟩ u w2 H
  replace H : Hp _ _ _ _ _ := H
  refine cut_rule (γ := Nat) _ rfl (fun g9 => [(9, .slice (some ⟨g9, 0, none⟩) 256 256)]) (fun g9 w' => Hp w (fun _ => False) w' [own 4 1 (.slice (some ⟨g9, 0, none⟩) 256 256) 256 (bls (upF (fun p => l.getD (toP p i b) false) (fun _ => false) 0))] []) ?_ ?_
  · refine H.make T29 256 rfl rfl (by decide) (by decide) ?_
    clear H
    intro g9 w3 H
    rw [madeBool] at H
    exact ⟨g9, ⟨rfl, trivial⟩, by rw [upF_false]; exact H⟩
  clear H
  rintro g9 u w3 H
  replace H : Hp _ _ _ _ _ := H
  refine cut_rule (γ := Unit) _ rfl (fun _ => []) (fun _ w' => Hp w (fun _ => False) w' [own 4 1 (.slice (some ⟨g9, 0, none⟩) 256 256) 256 (bls (upF (fun p => l.getD (toP p i b) false) (fun _ => false) 256))] []) ?_ ?_
  · refine loop_rule (γ := Nat) _ rfl (fun k => [(10, .int .i64 (k : Int))]) (fun k w' => k ≤ 256 ∧ Hp w (fun _ => False) w' [own 4 1 (.slice (some ⟨g9, 0, none⟩) 256 256) 256 (bls (upF (fun p => l.getD (toP p i b) false) (fun _ => false) k))] []) (fun k => 256 - k) 0 ⟨rfl, trivial⟩ ⟨Nat.zero_le _, H⟩ ?_
    clear H
    rintro k u w4 ⟨hk, H⟩
    replace H : Hp _ _ _ _ _ := H
    refine cond_dec (fun h7 => ?_) (fun h7 => ?_)
    · have hk8 : k < 256 := by omega
      have hlt := toP_lt8 (p := k) (i := i) b hk8 hi
      have hbm := bit_mod k i
      refine cut_rule (γ := Unit) _ rfl (fun _ => []) (fun _ w' => Hp w (fun _ => False) w' [own 4 1 (.slice (some ⟨g9, 0, none⟩) 256 256) 256 (bls (upF (fun p => l.getD (toP p i b) false) (fun _ => false) (k + 1)))] []) ?_ ?_
      · refine cut_rule (γ := Unit) _ rfl (fun _ => [(11, .int .i64 (k : Int))]) (fun _ w' => Hp w (fun _ => False) w' [own 4 1 (.slice (some ⟨g9, 0, none⟩) 256 256) 256 (bls (upF (fun p => l.getD (toP p i b) false) (fun _ => false) k))] []) ⟨(), ⟨rfl, trivial⟩, H⟩ ?_
        clear H
        rintro ⟨⟩ u w5 H
        replace H : Hp _ _ _ _ _ := H
        refine cut_rule (γ := Unit) _ rfl (fun _ => [(11, .int .i64 ((if k.testBit i = true ∧ b = false then k - 2 ^ i else k : Nat) : Int))]) (fun _ w' => Hp w (fun _ => False) w' [own 4 1 (.slice (some ⟨g9, 0, none⟩) 256 256) 256 (bls (upF (fun p => l.getD (toP p i b) false) (fun _ => false) k))] []) ?_ ?_
        · refine call_fn (c48 k i (by omega) (by omega) _) ?_
          rintro _ w6 ⟨rfl, hk6⟩
          replace H := H.same hk6
          clear hk6
          rw [hbm]
          cases hb : k.testBit i with
          | true =>
            have hd := flip_down hb
            cases b
            · iterate 4 refine cond_yes rfl ?_
              exact ⟨(), ⟨congrArg (Value.int .i64) (by rw [if_pos ⟨rfl, rfl⟩, ← Int.ofNat_sub hd.1]; exact wrap_i64_in (Int.le_trans (by decide) (Int.natCast_nonneg _)) (Int.lt_of_le_of_lt (Int.ofNat_le.2 (Nat.sub_le k (2 ^ i))) (by omega))), trivial⟩, H⟩
            · iterate 3 refine cond_yes rfl ?_
              refine cond_no rfl ?_
              exact ⟨(), ⟨congrArg (Value.int .i64) (by rw [if_neg (by simp)]), trivial⟩, H⟩
          | false =>
            cases b
            · iterate 4 refine cond_no rfl ?_
              exact ⟨(), ⟨congrArg (Value.int .i64) (by rw [if_neg (by simp)]), trivial⟩, H⟩
            · iterate 4 refine cond_no rfl ?_
              exact ⟨(), ⟨congrArg (Value.int .i64) (by rw [if_neg (by simp)]), trivial⟩, H⟩
        clear H
        rintro ⟨⟩ u w6 H
        replace H : Hp _ _ _ _ _ := H
        refine cut_rule (γ := Unit) _ rfl (fun _ => [(11, .int .i64 ((toP k i b : Nat) : Int))]) (fun _ w' => Hp w (fun _ => False) w' [own 4 1 (.slice (some ⟨g9, 0, none⟩) 256 256) 256 (bls (upF (fun p => l.getD (toP p i b) false) (fun _ => false) k))] []) ?_ ?_
        · refine call_fn (c48 k i (by omega) (by omega) _) ?_
          rintro _ w7 ⟨rfl, hk6⟩
          replace H := H.same hk6
          clear hk6
          rw [hbm]
          unfold toP
          cases hb : k.testBit i with
          | true =>
            have hd := flip_down hb
            cases b
            · iterate 3 refine cond_no rfl ?_
              exact ⟨(), ⟨congrArg (Value.int .i64) (by rw [if_pos ⟨rfl, rfl⟩, if_neg (by decide), hd.2]), trivial⟩, H⟩
            · iterate 3 refine cond_no rfl ?_
              exact ⟨(), ⟨congrArg (Value.int .i64) (by rw [if_neg (by simp), if_pos rfl]), trivial⟩, H⟩
          | false =>
            have hu := flip_up hb
            have hx := flip_lt (n := 8) hk8 hi
            cases b
            · iterate 2 refine cond_yes rfl ?_
              refine cond_no rfl ?_
              exact ⟨(), ⟨congrArg (Value.int .i64) (by rw [if_neg (by simp), if_pos rfl]), trivial⟩, H⟩
            · iterate 3 refine cond_yes rfl ?_
              exact ⟨(), ⟨congrArg (Value.int .i64) (by rw [if_neg (by simp), wrap_i64_in (by omega) (by omega)]; omega), trivial⟩, H⟩
        clear H
        rintro ⟨⟩ u w7 H
        replace H : Hp _ _ _ _ _ := H
        have hgl : (bls l)[toP k i b]? = some (.bool (l.getD (toP k i b) false)) := by
          rw [bls, List.getElem?_map, List.getElem?_eq_getElem (by omega), List.getD_eq_getElem?_getD, List.getElem?_eq_getElem (by omega)]; rfl
        refine idxAddr_sl Try.underlying29 (s := 1) size4 (toP k i b) rfl hlt (o' := oA + toP k i b) (by omega) ?_
        refine H.loadSl (i := toP k i b) hA agg4 _ rfl hgl ?_
        refine idxAddr_sl Try.underlying29 (s := 1) size4 k rfl hk8 (o' := k) (by omega) ?_
        refine H.storeOwn 0 rfl size4 (by rw [bls, List.length_map, upF_length]; omega) rfl ?_
        clear H
        intro w8 H
        rw [← bls_set, upF_set (f := fun p => l.getD (toP p i b) false) hk8] at H
        exact ⟨(), trivial, H⟩
      · clear H
        rintro ⟨⟩ u w5 H
        exact ⟨k + 1, by show 256 - (k + 1) < 256 - k; omega, ⟨up (by omega), trivial⟩, by show k + 1 ≤ 256; omega, H⟩
    · obtain rfl : k = 256 := by omega
      exact ⟨(), trivial, H⟩
  clear H
  rintro ⟨⟩ u w4 H
  replace H : Hp _ _ _ _ _ := H
  rw [upF_done] at H
  exact ⟨_, _, rfl, H.out⟩
end Go.Proofs.Ytjebpngdinbckaa
end

section
/- Graphs: found, says, the document's Set. -/
namespace Go.Proofs.Ytjebpngdinbckaa
open Go.Dk
attribute [local irreducible] IntKind.wrap

theorem ent216 : enters Try.prog 216 = true := by kernel_rfl
theorem c216 (l : List Nat) (hl : l.length ≤ 1000000) (hz : ∀ s ∈ l, s < 2 ^ 256) (A : Option Addr) (c : Nat) (s : Nat) (hs : s < 2 ^ 256) (w : World) (hA : Sl w (.slice A l.length c) 4 l.length (flat encZ l)) :
    Fun Try.prog 216 [.slice A l.length c, sv s] w fun v w' => ((s ∉ l ∧ v = .int .i64 (-1)) ∨ ∃ i : Nat, l[i]? = some s ∧ v = .int .i64 (i : Int)) ∧ Same w w' := by
  refine fun_of_W (N := 19) Try.func216 ent216 rfl rfl rfl (by simp) ?_
  have H := Hp.start0 w
  refine cut_rule (γ := Nat) _ rfl (fun g3 => [(3, .pointer (some ⟨g3, 0, none⟩))]) (fun g3 w' => Hp w (fun _ => False) w' [blk g3 24 (sc s)] []) ?_ ?_
  · refine H.box 24 (sv s) (cs := sc s) rfl ?_
    clear H
    intro g3 w1 H
    exact ⟨g3, ⟨rfl, trivial⟩, H⟩
  clear H
  rintro g3 u w1 H
  replace H : Hp _ _ _ _ _ := H
  refine cut_rule (γ := Unit) _ rfl (fun _ => []) (fun _ w' => s ∉ l ∧ Hp w (fun _ => False) w' [blk g3 24 (sc s)] []) ?_ ?_
  · refine loop_rule (γ := Nat) _ rfl (fun i => [(5, .int .i64 (i : Int))]) (fun i w' => (i ≤ l.length ∧ s ∉ l.take i) ∧ Hp w (fun _ => False) w' [blk g3 24 (sc s)] []) (fun i => l.length - i) 0 ⟨rfl, trivial⟩ ⟨⟨Nat.zero_le _, by simp⟩, H⟩ ?_
    clear H
    rintro i u w2 ⟨⟨hi, hno⟩, H⟩
    replace H : Hp _ _ _ _ _ := H
    refine len_sl Try.underlying111 ?_
    refine cond_dec (fun h7 => ?_) (fun h7 => ?_)
    · have hiN : i < l.length := by omega
      obtain ⟨gA, oA, rfl⟩ := hA.A (by omega)
      obtain ⟨x, hx⟩ : ∃ x, l[i]? = some x := ⟨_, List.getElem?_eq_getElem hiN⟩
      have hxl := hz x (List.mem_of_getElem? hx)
      refine H.draw fol (by kernel_rfl) ?_
      clear H
      intro w3 H
      refine quiet _ (fun w H => idxAddr_sl Try.underlying111 size24 i rfl hiN (o' := oA + i * 4) (by omega) ⟨rfl, rfl⟩) ?_
      refine quiet (sv x) (fun w H => Sl.loadAgg H hA encZ_length agg24 size24 i rfl hx ⟨rfl, rfl⟩) ?_
      refine quiet _ (fun w H => H.loadAll 0 rfl agg24 size24 ⟨rfl, rfl⟩) ?_
      refine quiet _ (fun w H => bin_eql24 hxl hs ⟨rfl, rfl⟩) ?_
      by_cases hxs : x = s
      · refine cond_yes (by simpa using hxs) ?_
        exact ⟨.inr ⟨i, by rw [hx, hxs], rfl⟩, H.keeps⟩
      · refine cond_no (by simpa using hxs) ?_
        refine ⟨i + 1, by show l.length - (i + 1) < l.length - i; omega, ⟨up (by omega), trivial⟩, ⟨by show i + 1 ≤ l.length; omega, ?_⟩, H⟩
        show s ∉ l.take (i + 1)
        rw [List.take_add_one, hx]
        intro h
        rcases List.mem_append.1 h with h | h
        · exact hno h
        · have : s = x := by simpa using h
          exact hxs this.symm
    · rw [List.take_of_length_le (by omega)] at hno
      exact ⟨(), trivial, hno, H⟩
  clear H
  rintro ⟨⟩ u w2 ⟨hno, H⟩
  replace H : Hp _ _ _ _ _ := H
  exact ⟨.inl ⟨hno, rfl⟩, H.keeps⟩
/-- What an id says of a point, whatever the nodes are. -/
def evalP (o : List Nat) (P : List Nd) (p : Nat) : Nat → Nat → Bool
  | 0, _ => false
  | f + 1, id => if id < 2 then id == 1 else
    match P[id - 2]? with
    | some d => if p.testBit (o.getD d.l 0) then evalP o P p f d.hi else evalP o P p f d.lo
    | none => false
theorem evalP_sem {n : Nat} {o : List Nat} (hn : o.length = n) {P : List Nd} (h : BInv n (arN P)) (ht : Topo P) (p : Nat) : ∀ f id, id < f → id < P.length + 2 → evalP o P p f id = sem (arN P) (id : Int) (asgP o p)
  | 0, id, hf, _ => by omega
  | f + 1, id, hf, hid => by
    rw [evalP]
    split
    · rename_i h2
      rw [sem_none (nd_end (by omega)), Bool.eq_iff_iff, beq_iff_eq, decide_eq_true_eq]; omega
    · rename_i h2
      obtain ⟨j, rfl⟩ : ∃ j, id = j + 2 := ⟨id - 2, by omega⟩
      rw [Nat.add_sub_cancel]
      have hj : P[j]? = some (P[j]'(by omega)) := List.getElem?_eq_getElem (by omega)
      rw [hj]
      generalize P[j]'(by omega) = d at hj
      have hs : slot (arN P) j = some d := by rw [slot_arN]; exact hj
      have htd := ht j d hj
      have hdl := h.lt j d hs
      have hjl := (List.getElem?_eq_some_iff.1 hj).1
      have hnode := sem_node h.inv (id := ((j + 2 : Nat) : Int)) (d := d) (by rw [show ((j + 2 : Nat) : Int) = (j : Int) + 2 by omega, nd_slot]; exact hs) (asgP o p)
      have hasg : asgP o p d.l = p.testBit (o.getD d.l 0) := by unfold asgP; rw [decide_eq_true (by omega), Bool.true_and]
      rw [hnode, hasg]
      simp only
      rw [evalP_sem hn h ht p f d.hi (by omega) (by omega), evalP_sem hn h ht p f d.lo (by omega) (by omega)]
      split <;> rfl
theorem fa232_0 (g o : Nat) (w : World) : (Instr.fieldAt 232 (.pointer (some ⟨g, o, none⟩)) 0).run Try.prog w = .ok (.pointer (some ⟨g, o, none⟩)) w := by kernel_rfl
theorem fa232_1 (g o : Nat) (w : World) : (Instr.fieldAt 232 (.pointer (some ⟨g, o, none⟩)) 1).run Try.prog w = .ok (.pointer (some ⟨g, o + 1, none⟩)) w := by kernel_rfl
theorem fa232_2 (g o : Nat) (w : World) : (Instr.fieldAt 232 (.pointer (some ⟨g, o, none⟩)) 2).run Try.prog w = .ok (.pointer (some ⟨g, o + 2, none⟩)) w := by kernel_rfl
theorem ent198 : enters Try.prog 198 = true := by kernel_rfl
theorem c198 {o : List Int} (hord : OrdI o) {N : List I3} {P : List Nd} (hnds : ndI P = N) (ht : Topo P) (hlv : ∀ (i : Nat) (d : Nd), P[i]? = some d → d.l < o.length) (hl : N.length ≤ 1000000) (Bo A : Option Addr) (co c : Nat) (r : Int) (p : Nat) (hp : p < 1000000) : ∀ (f id : Nat) (w : World), id < f → id < P.length + 2 → Sl w (.slice Bo o.length co) 1 o.length (intsI o) → Sl w (.slice A N.length c) 3 N.length (flat encI N) →
    Fun Try.prog 198 [grV (.slice Bo o.length co) (.slice A N.length c) r, .int .i64 (id : Int), .int .i64 (p : Int)] w fun v w' => v = .bool (evalP (natsI o) P p f id) ∧ Same w w'
  | 0, id, w, hf, _, _, _ => by omega
  | f + 1, id, w, hf, hid, hS, hA => by
    refine fun_of_W (N := 37) Try.func198 ent198 rfl rfl rfl (by simp) ?_
    have H := Hp.start0 w
    have ho8 := hord.le
    have IH := c198 hord hnds ht hlv hl Bo A co c r p hp f
    have hPl : P.length = N.length := by have := congrArg List.length hnds; rwa [List.length_map] at this
    refine cut_rule (γ := Nat) _ rfl (fun g3 => [(3, .pointer (some ⟨g3, 0, none⟩))]) (fun g3 w' => Hp w (fun _ => False) w' [blk g3 155 (grC (.slice Bo o.length co) (.slice A N.length c) r)] []) ?_ ?_
    · refine H.box 155 _ (cs := grC (.slice Bo o.length co) (.slice A N.length c) r) rfl ?_
      clear H
      intro g3 w1 H
      exact ⟨g3, ⟨rfl, trivial⟩, H⟩
    clear H
    rintro g3 u w1 H
    replace H : Hp _ _ _ _ _ := H
    rw [evalP]
    by_cases h2 : id < 2
    · rw [if_pos h2]
      refine cond_yes (decide_eq_true (by omega)) ?_
      refine ⟨congrArg Value.bool ?_, H.keeps⟩
      rw [Bool.eq_iff_iff, beq_iff_eq, beq_iff_eq]; omega
    · rw [if_neg h2]
      obtain ⟨j, rfl⟩ : ∃ j, id = j + 2 := ⟨id - 2, by omega⟩
      rw [Nat.add_sub_cancel]
      obtain ⟨d, hd⟩ : ∃ d, P[j]? = some d := ⟨_, List.getElem?_eq_getElem (by omega)⟩
      rw [hd]
      simp only
      have hdl := hlv j d hd
      have htd := ht j d hd
      have hNj : N[j]? = some (i3 d) := by rw [← hnds, List.getElem?_map, hd]; rfl
      have hjN := (List.getElem?_eq_some_iff.1 hNj).1
      obtain ⟨gA, oA, rfl⟩ := hA.A (by omega)
      obtain ⟨gB, oB, rfl⟩ := hS.A (by omega)
      obtain ⟨hol, hlt⟩ := ord_at hord hdl
      have hgo : (intsI o)[d.l]? = some (.int .i64 (((natsI o).getD d.l 0 : Nat) : Int)) := intsI_at hol
      have hsub : IntKind.i64.wrap (((j + 2 : Nat) : Int) - 2) = (j : Int) := by rw [wrap_i64_in (by omega) (by omega)]; omega
      refine cut_rule (γ := Unit) _ rfl (fun _ => []) (fun _ w' => Hp w (fun _ => False) w' [blk g3 155 (grC (.slice (some ⟨gB, oB, none⟩) o.length co) (.slice (some ⟨gA, oA, none⟩) N.length c) r)] []) ?_ ?_
      · refine cond_no (decide_eq_false (by omega)) ?_
        exact ⟨(), trivial, H⟩
      clear H
      rintro ⟨⟩ u w2 H
      replace H : Hp _ _ _ _ _ := H
      refine cut_rule (γ := Nat) _ rfl (fun g7 => [(7, .pointer (some ⟨g7, 0, none⟩))]) (fun g7 w' => Hp w (fun _ => False) w' [blk g7 232 (k3c d.l d.lo d.hi), blk g3 155 (grC (.slice (some ⟨gB, oB, none⟩) o.length co) (.slice (some ⟨gA, oA, none⟩) N.length c) r)] []) ?_ ?_
      · refine fieldAddr_by (fa155_1 _) ?_
        refine H.load 0 rfl agg153 rfl ?_
        refine idxAddr_sl Try.underlying153 size232 j hsub hjN (o' := oA + j * 3) (by omega) ?_
        refine Sl.loadAgg H hA encI_length agg232 size232 j rfl hNj ?_
        refine H.alloc 232 zero232 rfl ?_
        clear H
        intro g7 w3 H
        refine H.storeAll 0 rfl size232 rfl (fun v hv => encI_one (i3 d) v hv) ?_
        clear H
        intro w4 H
        exact ⟨g7, ⟨rfl, trivial⟩, H⟩
      clear H
      rintro g7 u w3 H
      replace H : Hp _ _ _ _ _ := H
      have hbm := bit_mod p ((natsI o).getD d.l 0)
      refine fieldAddr_by (fa155_0 _) ?_
      refine H.load 1 rfl agg32 rfl ?_
      refine fieldAddr_by (fa232_0 _ _) ?_
      refine H.load 0 rfl agg3 rfl ?_
      refine idxAddr_sl Try.underlying32 (s := 1) size3 d.l rfl hdl (o' := oB + d.l) (by omega) ?_
      refine H.loadSl (i := d.l) hS agg3 _ rfl hgo ?_
      refine call_fn (c48 p _ (by omega) (by omega) _) ?_
      rintro _ w4 ⟨rfl, hk⟩
      replace H := H.same hk
      clear hk
      rw [hbm]
      cases hpb : p.testBit ((natsI o).getD d.l 0) with
      | true =>
        refine cond_yes rfl ?_
        refine H.loadAll 1 rfl agg155 size155 ?_
        refine fieldAddr_by (fa232_2 _ _) ?_
        refine H.load 0 rfl agg3 rfl ?_
        refine call_fn (IH d.hi _ (by omega) (by omega) (hS.same H.keeps) (hA.same H.keeps)) ?_
        rintro _ w5 ⟨rfl, hk⟩
        exact ⟨congrArg Value.bool (if_pos rfl).symm, (H.same hk).keeps⟩
      | false =>
        refine cond_no rfl ?_
        refine H.loadAll 1 rfl agg155 size155 ?_
        refine fieldAddr_by (fa232_1 _ _) ?_
        refine H.load 0 rfl agg3 rfl ?_
        refine call_fn (IH d.lo _ (by omega) (by omega) (hS.same H.keeps) (hA.same H.keeps)) ?_
        rintro _ w5 ⟨rfl, hk⟩
        exact ⟨congrArg Value.bool (if_neg (by decide)).symm, (H.same hk).keeps⟩
/-- The set that nodes say. -/
def saysN (o : List Nat) (P : List Nd) (root : Nat) : Nat := setOf fun p => decide (p < 2 ^ o.length) && evalP o P p (root + 1) root
theorem ent137 : enters Try.prog 137 = true := by kernel_rfl
theorem c137 {o : List Int} (hord : OrdI o) {N : List I3} {P : List Nd} (hnds : ndI P = N) (ht : Topo P) (hlv : ∀ (i : Nat) (d : Nd), P[i]? = some d → d.l < o.length) (hl : N.length ≤ 1000000) (Bo A : Option Addr) (co c : Nat) (root : Nat) (hroot : root < P.length + 2) (w : World)
    (hS : Sl w (.slice Bo o.length co) 1 o.length (intsI o)) (hA : Sl w (.slice A N.length c) 3 N.length (flat encI N)) :
    Fun Try.prog 137 [grV (.slice Bo o.length co) (.slice A N.length c) (root : Int)] w fun v w' => v = sv (saysN (natsI o) P root) ∧ Same w w' := by
  refine fun_of_W (N := 29) Try.func137 ent137 rfl rfl rfl (by simp) ?_
  have H := Hp.start0 w
  have ho8 := hord.le
  have hlen := natsI_length o
  have h256 := pow_le_256 ho8
  refine cut_rule (γ := Nat × Nat) _ rfl (fun (g1, g2) => [(1, .pointer (some ⟨g1, 0, none⟩)), (2, .pointer (some ⟨g2, 0, none⟩))]) (fun (g1, g2) w' => Hp w (fun _ => False) w' [blk g2 24 (sc 0), blk g1 155 (grC (.slice Bo o.length co) (.slice A N.length c) root)] []) ?_ ?_
  · refine H.box 155 _ (cs := grC (.slice Bo o.length co) (.slice A N.length c) root) rfl ?_
    clear H
    intro g1 w1 H
    refine H.alloc 24 (cs := sc 0) zero24 sc_zero ?_
    clear H
    intro g2 w2 H
    exact ⟨(g1, g2), ⟨rfl, rfl, trivial⟩, H⟩
  clear H
  rintro ⟨g1, g2⟩ u w1 H
  replace H : Hp _ _ _ _ _ := H
  refine cut_rule (γ := Nat × Nat) _ rfl (fun (g3, d3) => [(3, .slice (some ⟨g3, 0, none⟩) 256 d3)]) (fun (g3, d3) w' => Hp w (fun _ => False) w' [own 4 1 (.slice (some ⟨g3, 0, none⟩) 256 d3) 256 (bls (upF (fun p => decide (p < 2 ^ o.length) && evalP (natsI o) P p (root + 1) root) (fun p => decide (p < 2 ^ o.length)) 0)), blk g2 24 (sc 0), blk g1 155 (grC (.slice Bo o.length co) (.slice A N.length c) root)] []) ?_ ?_
  · refine fieldAddr_by (fa155_0 _) ?_
    refine H.load 1 rfl agg32 rfl ?_
    refine len_sl Try.underlying32 ?_
    refine call_fn (c39 o.length ho8 _) ?_
    rintro _ w2 ⟨A3, d3, rfl, hk⟩
    replace H := H.addNew hk
    obtain ⟨g3, rfl⟩ := H.ownA 0 rfl (by decide)
    exact ⟨(g3, d3), ⟨rfl, trivial⟩, by rw [upF_zero]; exact H⟩
  clear H
  rintro ⟨g3, d3⟩ u w2 H
  replace H : Hp _ _ _ _ _ := H
  refine cut_rule (γ := Unit) _ rfl (fun _ => []) (fun _ w' => Hp w (fun _ => False) w' [own 4 1 (.slice (some ⟨g3, 0, none⟩) 256 d3) 256 (bls (upF (fun p => decide (p < 2 ^ o.length) && evalP (natsI o) P p (root + 1) root) (fun p => decide (p < 2 ^ o.length)) 256)), blk g2 24 (sc 0), blk g1 155 (grC (.slice Bo o.length co) (.slice A N.length c) root)] []) ?_ ?_
  · refine loop_rule (γ := Nat) _ rfl (fun k => [(4, .int .i64 (k : Int))]) (fun k w' => k ≤ 256 ∧ Hp w (fun _ => False) w' [own 4 1 (.slice (some ⟨g3, 0, none⟩) 256 d3) 256 (bls (upF (fun p => decide (p < 2 ^ o.length) && evalP (natsI o) P p (root + 1) root) (fun p => decide (p < 2 ^ o.length)) k)), blk g2 24 (sc 0), blk g1 155 (grC (.slice Bo o.length co) (.slice A N.length c) root)] []) (fun k => 256 - k) 0 ⟨rfl, trivial⟩ ⟨Nat.zero_le _, H⟩ ?_
    clear H
    rintro k u w3 ⟨hk, H⟩
    replace H : Hp _ _ _ _ _ := H
    refine cond_dec (fun h7 => ?_) (fun h7 => ?_)
    · have hk8 : k < 256 := by omega
      have hfin : ∀ w2 b, b = (decide (k < 2 ^ o.length) && evalP (natsI o) P k (root + 1) root) → Hp w (fun _ => False) w2 [own 4 1 (.slice (some ⟨g3, 0, none⟩) 256 d3) 256 ((bls (upF (fun p => decide (p < 2 ^ o.length) && evalP (natsI o) P p (root + 1) root) (fun p => decide (p < 2 ^ o.length)) k)).set k (.bool b)), blk g2 24 (sc 0), blk g1 155 (grC (.slice Bo o.length co) (.slice A N.length c) root)] [] →
          Hp w (fun _ => False) w2 [own 4 1 (.slice (some ⟨g3, 0, none⟩) 256 d3) 256 (bls (upF (fun p => decide (p < 2 ^ o.length) && evalP (natsI o) P p (root + 1) root) (fun p => decide (p < 2 ^ o.length)) (k + 1))), blk g2 24 (sc 0), blk g1 155 (grC (.slice Bo o.length co) (.slice A N.length c) root)] [] := fun w2 b hb H => by
        subst hb
        rwa [← bls_set, upF_set (f := fun p => decide (p < 2 ^ o.length) && evalP (natsI o) P p (root + 1) root) hk8] at H
      refine idxAddr_sl Try.underlying29 (s := 1) size4 k rfl hk8 (o' := k) (by omega) ?_
      refine H.loadOwn 0 rfl agg4 (upF_get hk8) ?_
      by_cases hb : k < 2 ^ o.length
      · refine cond_yes (decide_eq_true hb) ?_
        refine H.loadAll 2 rfl agg155 size155 ?_
        refine cond_yes (decide_eq_true hb) ?_
        refine fieldAddr_by (fa155_2 _) ?_
        refine cond_yes (decide_eq_true hb) ?_
        refine H.load 2 rfl agg3 rfl ?_
        iterate 2 refine cond_yes (decide_eq_true hb) ?_
        refine call_fn (c198 hord hnds ht hlv hl Bo A co c (root : Int) k (by omega) (root + 1) root _ (by omega) hroot (hS.same H.keeps) (hA.same H.keeps)) ?_
        rintro _ w4 ⟨rfl, hk4⟩
        replace H := H.same hk4
        clear hk4
        refine cond_yes (decide_eq_true hb) ?_
        refine idxAddr_sl Try.underlying29 (s := 1) size4 k rfl hk8 (o' := k) (by omega) ?_
        refine H.storeOwn 0 rfl size4 (by rw [bls, List.length_map, upF_length]; omega) rfl ?_
        clear H
        intro w8 H
        exact ⟨k + 1, by show 256 - (k + 1) < 256 - k; omega, ⟨up (by omega), trivial⟩, by show k + 1 ≤ 256; omega, hfin _ _ (by rw [decide_eq_true hb, Bool.true_and]) H⟩
      · refine cond_no (decide_eq_false hb) ?_
        repeat refine cond_no (decide_eq_false hb) ?_
        refine idxAddr_sl Try.underlying29 (s := 1) size4 k rfl hk8 (o' := k) (by omega) ?_
        refine H.storeOwn 0 rfl size4 (by rw [bls, List.length_map, upF_length]; omega) rfl ?_
        clear H
        intro w8 H
        exact ⟨k + 1, by show 256 - (k + 1) < 256 - k; omega, ⟨up (by omega), trivial⟩, by show k + 1 ≤ 256; omega, hfin _ _ (by rw [decide_eq_false hb, Bool.false_and]) H⟩
    · obtain rfl : k = 256 := by omega
      exact ⟨(), trivial, H⟩
  clear H
  rintro ⟨⟩ u w3 H
  replace H : Hp _ _ _ _ _ := H
  refine call_fn (c38 _ (upF_length _ _ _) _ _ _ (own_Sl (H.get 0 rfl))) ?_
  rintro _ w4 ⟨rfl, hk⟩
  replace H := H.same hk
  clear hk
  rw [upF_all]
  refine H.storeSet 1 rfl ?_
  clear H
  intro w5 H
  refine H.loadAll 1 rfl agg24 size24 ?_
  refine ⟨rfl, ?_⟩
  refine ⟨?_, H.keeps⟩
  unfold saysN
  rw [hlen]; rfl
end Go.Proofs.Ytjebpngdinbckaa
end

section
/- Graphs: the document's build, plain. -/
namespace Go.Proofs.Ytjebpngdinbckaa
open Go.Dk

/-- A thing's set, of all eight inputs. -/
def wideN (o : List Nat) (F : Dk.Fn) : Nat := setOf fun p => F (asgP o p)
theorem wideN_lt (o : List Nat) (F : Dk.Fn) : wideN o F < 2 ^ 256 := setOf_lt _
theorem wide_inj {o : List Nat} (ho : OrdO o) {F G : Dk.Fn} (hF : Low o.length F) (hG : Low o.length G) (h : wideN o F = wideN o G) : F = G := by
  funext a
  have hp := ptA_lt o a
  have h256 := pow_le_256 ho.le
  have e : ∀ {K : Dk.Fn}, Low o.length K → K a = K (asgP o (ptA o a)) := fun hK => hK _ _ fun k hk => (asg_pt ho a hk).symm
  rw [e hF, e hG]
  have h1 := congrArg (fun x => x.testBit (ptA o a)) h
  unfold wideN at h1
  simp only [testBit_setOf, decide_eq_true (show ptA o a < 256 by omega), Bool.true_and] at h1
  exact h1
theorem wide_side {o : List Nat} (ho : OrdO o) (F : Dk.Fn) {lev : Nat} (hl : lev < o.length) (v : Bool) : ofFlags (sideL (flagsN (wideN o F)) (o.getD lev 0) v) = wideN o fun a => F (upA a lev v) := by
  have hi := ho.get_lt hl
  have h8 := ho.le
  refine set_ext (ofFlags_lt _) (setOf_lt _) fun p hp => ?_
  have hlt := toP_lt8 (p := p) (i := o.getD lev 0) v hp (by omega)
  rw [testBit_ofFlags]
  unfold wideN sideL
  rw [testBit_setOf, decide_eq_true hp, Bool.true_and, Bool.true_and, List.getD_eq_getElem?_getD, List.getElem?_map, List.getElem?_range hp, Option.map_some, Option.getD_some]
  have hf : (flagsN (setOf fun p => F (asgP o p))).getD (toP p (o.getD lev 0) v) false = F (asgP o (toP p (o.getD lev 0) v)) := by
    have := flagsN_get (n := setOf fun p => F (asgP o p)) hlt
    rw [bls, List.getElem?_map] at this
    rw [List.getD_eq_getElem?_getD]
    cases h : (flagsN (setOf fun p => F (asgP o p)))[toP p (o.getD lev 0) v]? with
    | none => rw [h] at this; cases this
    | some b =>
      rw [h] at this
      simp only [Option.map_some, Option.some.injEq, Value.bool.injEq] at this
      rw [Option.getD_some, this, testBit_setOf, decide_eq_true hlt, Bool.true_and]
  rw [hf, ← up_asg' ho p hi v, ho.idx_get hl]
/-- What is held beside the nodes. -/
def setsG (o : List Nat) (N : List Nd) : List Nat := (List.range (N.length + 2)).map fun id : Nat => wideN o (sem (arN N) (id : Int))
theorem setsG_length (o : List Nat) (N : List Nd) : (setsG o N).length = N.length + 2 := by simp [setsG]
theorem setsG_lt (o : List Nat) (N : List Nd) : ∀ s ∈ setsG o N, s < 2 ^ 256 := fun s hs => by
  obtain ⟨i, _, rfl⟩ := List.mem_map.1 hs
  exact wideN_lt _ _
theorem setsG_at {o : List Nat} (ho : OrdO o) {N : List Nd} (hN : BInv o.length (arN N)) {F : Dk.Fn} (hF : Low o.length F) {i : Nat} (h : (setsG o N)[i]? = some (wideN o F)) : Rep (arN N) (i : Int) F := by
  unfold setsG at h
  rw [List.getElem?_map] at h
  by_cases hi : i < N.length + 2
  · rw [List.getElem?_range hi, Option.map_some] at h
    injection h with h
    have he := wide_inj ho (sem_low hN _) hF h
    exact ⟨there_of (Int.natCast_nonneg _) (by omega), fun a => by rw [he]⟩
  · rw [List.getElem?_eq_none (by simp; omega)] at h
    cases h
theorem setsG_no {o : List Nat} {N : List Nd} {F : Dk.Fn} (h : wideN o F ∉ setsG o N) (id : Int) : ¬ Rep (arN N) id F := fun hr => h (by
  have h1 := rep_id hr
  obtain ⟨i, rfl⟩ := Int.eq_ofNat_of_zero_le h1.1
  unfold setsG
  refine List.mem_map.2 ⟨i, List.mem_range.2 (by omega), ?_⟩
  congr 1
  funext a
  exact hr.says a)
theorem half_indep2 (F : Dk.Fn) (k : Nat) (v : Bool) {j : Nat} (h : j ≤ k) (hF : ∀ j, j < k → Indep F j) : Indep (fun b => F (upA b k v)) j := fun a b => by
  show F (upA (upA a j b) k v) = F (upA a k v)
  rcases Nat.eq_or_lt_of_le h with he | hlt
  · rw [he, upA_up]
  · rw [upA_comm a (by omega)]
    exact hF j hlt _ _
theorem indep_of_halves {F : Dk.Fn} {k : Nat} (h : (fun b => F (upA b k false)) = fun b => F (upA b k true)) : Indep F k := fun a b => by
  have h1 : F (upA a k false) = F (upA a k true) := congrFun h a
  have h2 := upA_self a k
  cases ha : a k <;> rw [ha] at h2 <;> cases b
  · rw [h2]
  · rw [← h1, h2]
  · rw [h1, h2]
  · rw [h2]
theorem halves_of_indep {F : Dk.Fn} {k : Nat} (h : Indep F k) : (fun b => F (upA b k false)) = fun b => F (upA b k true) := by
  funext b
  show F (upA b k false) = F (upA b k true)
  rw [h, h]
/-- A node that is built is new. -/
theorem node_new {n : Nat} (hn : n ≤ 23) {O O1 O2 : List Nd} {F : Dk.Fn} {k : Nat} {lo hi : Int} (hO : BInv n (arN O)) (hF : Low n F) (hno : ∀ id, ¬ Rep (arN O) id F) (hk : ∀ j, j < k → Indep F j) (hdep : ¬ Indep F k)
    (b1 : Bld O (fun b => F (upA b k false)) O1 lo) (b2 : Bld O1 (fun b => F (upA b k true)) O2 hi) : nodeN O2 k lo hi = (O2 ++ [⟨k, lo.toNat, hi.toNat⟩], ((O2.length + 2 : Nat) : Int)) := by
  have hl2 := bld_len b2
  have m1 := bld_made hn (room := (O2.length : Int) + 1) b1 hO (hF.up k false) (by omega)
  have m2 := bld_made hn (room := (O2.length : Int) + 1) b2 m1.inv (hF.up k true) (by omega)
  have r1 := m1.ok.ext m1.inv.inv m2.inv.inv m2.ext
  have r2 := m2.ok
  have hne : lo ≠ hi := fun he => hdep (indep_of_halves (by
    funext b
    have h1 := r1.says b
    have h2 := r2.says b
    rw [he, h2] at h1
    exact h1.symm))
  unfold nodeN
  rw [if_neg hne]
  cases hf : findA (arN O2) ⟨k, lo.toNat, hi.toNat⟩ with
  | none => rfl
  | some j =>
    exfalso
    have hs := findA_slot hf
    have hl0 : ((lo.toNat : Nat) : Int) = lo := Int.toNat_of_nonneg (lvlA_nonneg r1.there)
    have hh0 : ((hi.toNat : Nat) : Int) = hi := Int.toNat_of_nonneg (lvlA_nonneg r2.there)
    have hrep : Rep (arN O2) ((j : Int) + 2) F := by
      refine ⟨by rw [lvlA_slot hs]; omega, fun a => ?_⟩
      rw [sem_node m2.inv.inv (d := ⟨k, lo.toNat, hi.toNat⟩) (by rw [nd_slot]; exact hs)]
      show sem (arN O2) (if a k then ((hi.toNat : Nat) : Int) else ((lo.toNat : Nat) : Int)) a = F a
      rw [hl0, hh0]
      have h2 := upA_self a k
      cases ha : a k <;> rw [ha] at h2
      · rw [if_neg (by decide), r1.says]; show F (upA a k false) = F a; rw [h2]
      · rw [if_pos rfl, r2.says]; show F (upA a k true) = F a; rw [h2]
    cases h1 : slot (arN O1) j with
    | none => exact needed_level m2.inv hs (m2.need j _ hs h1) (half_indep2 F k true (Nat.le_refl _) hk)
    | some d1 =>
      have hd1 : d1 = ⟨k, lo.toNat, hi.toNat⟩ := by have := m2.ext j d1 h1; rw [hs] at this; injection this with this; exact this.symm
      subst hd1
      cases h0 : slot (arN O) j with
      | none => exact needed_level m1.inv h1 (m1.need j _ h1 h0) (half_indep2 F k false (Nat.le_refl _) hk)
      | some d0 =>
        refine hno ((j : Int) + 2) ⟨by rw [lvlA_slot h0]; omega, fun a => ?_⟩
        rw [← hrep.says, (m1.ext.trans m2.ext).sem hO.inv m2.inv.inv a _ (by rw [lvlA_slot h0]; omega)]
/-- The sets go along. -/
theorem setsG_ext {n : Nat} {o : List Nat} {N N' : List Nd} (hN : BInv n (arN N)) (hN' : BInv n (arN N')) (hx : Ext (arN N) (arN N')) (hl : N'.length = N.length + 1) : setsG o N' = setsG o N ++ [wideN o (sem (arN N') ((N.length : Int) + 2))] := by
  unfold setsG
  rw [hl, show N.length + 1 + 2 = (N.length + 2) + 1 by omega, List.range_succ, List.map_append]
  refine (congr (congrArg HAppend.hAppend (List.map_congr_left fun id hid => ?_)) ?_)
  · have := List.mem_range.1 hid
    refine congrArg (wideN o) (funext fun a => ?_)
    exact hx.sem hN.inv hN'.inv a _ (there_of (Int.natCast_nonneg _) (by omega))
  · show [wideN o (sem (arN N') (((N.length + 2 : Nat)) : Int))] = _
    rw [show (((N.length + 2 : Nat)) : Int) = (N.length : Int) + 2 by omega]
end Go.Proofs.Ytjebpngdinbckaa
end

section
/- Graphs: the document's build. -/
namespace Go.Proofs.Ytjebpngdinbckaa
open Go.Dk
attribute [local irreducible] IntKind.wrap

theorem ent197 : enters Try.prog 197 = true := by kernel_rfl
theorem c197 {o : List Int} (hord : OrdI o) (B : Option Addr) (co : Nat) (w0 : World) (hS : Sl w0 (.slice B o.length co) 1 o.length (intsI o)) : ∀ (f level : Nat) (F : Dk.Fn) (N : List Nd) (Bn : Option Addr) (dn : Nat) (Bs : Option Addr) (ds : Nat) (X : List Res) (w : World), level ≤ o.length → o.length - level < f → Low o.length F → (∀ j, j < level → Indep F j) → BInv o.length (arN N) → N.length + 1000 * (o.length + 1 - level) ≤ 100000 →
    Hp w0 (fun _ => False) w (own 232 3 (.slice Bn N.length dn) N.length (flat encI (ndI N)) :: own 24 4 (.slice Bs (N.length + 2) ds) (N.length + 2) (flat encZ (setsG (natsI o) N)) :: X) [] →
    Fun Try.prog 197 [.slice Bn N.length dn, .slice Bs (N.length + 2) ds, sv (wideN (natsI o) F), .slice B o.length co, .int .i64 (level : Int)] w fun v w' => ∃ Bn' dn' Bs' ds' N' id, v = .tuple #[.slice Bn' N'.length dn', .slice Bs' (N'.length + 2) ds', .int .i64 id] ∧ Bld N F N' id ∧
      Hp w0 (fun _ => False) w' (own 232 3 (.slice Bn' N'.length dn') N'.length (flat encI (ndI N')) :: own 24 4 (.slice Bs' (N'.length + 2) ds') (N'.length + 2) (flat encZ (setsG (natsI o) N')) :: X) []
  | 0, level, F, N, Bn, dn, Bs, ds, X, w, hlev, hf, hF, hind, hN, hl, H => by omega
  | f + 1, level, F, N, Bn, dn, Bs, ds, X, w, hlev, hf, hF, hind, hN, hl, H => by
    refine fun_of_W (N := 91) Try.func197 ent197 rfl rfl rfl (by simp) ?_
    have ho := hord.nats
    have ho8 := hord.le
    have hlen := natsI_length o
    have IH := c197 hord B co w0 hS f
    have hFn : Low (natsI o).length F := by rw [hlen]; exact hF
    have hNn : BInv (natsI o).length (arN N) := by rw [hlen]; exact hN
    refine cut_rule (γ := Nat) _ rfl (fun g7 => [(7, .pointer (some ⟨g7, 0, none⟩))]) (fun g7 w' => Hp w0 (fun _ => False) w' (own 232 3 (.slice Bn N.length dn) N.length (flat encI (ndI N)) :: own 24 4 (.slice Bs (N.length + 2) ds) (N.length + 2) (flat encZ (setsG (natsI o) N)) :: (blk g7 24 (sc (wideN (natsI o) F)) :: X)) []) ?_ ?_
    · refine H.box 24 _ (cs := sc (wideN (natsI o) F)) rfl ?_
      clear H
      intro g7 w1 H
      exact ⟨g7, ⟨rfl, trivial⟩, (H.front 2 rfl).front 2 rfl⟩
    clear H
    rintro g7 u w1 H
    replace H : Hp _ _ _ _ _ := H
    have hsl : (setsG (natsI o) N).length = N.length + 2 := setsG_length _ _
    refine cut_rule (γ := Int) _ rfl (fun i => [(13, .int .i64 i)]) (fun i w' => ((wideN (natsI o) F ∉ setsG (natsI o) N ∧ i = -1) ∨ ∃ j : Nat, (setsG (natsI o) N)[j]? = some (wideN (natsI o) F) ∧ i = j) ∧ Hp w0 (fun _ => False) w' (own 232 3 (.slice Bn N.length dn) N.length (flat encI (ndI N)) :: own 24 4 (.slice Bs (N.length + 2) ds) (N.length + 2) (flat encZ (setsG (natsI o) N)) :: (blk g7 24 (sc (wideN (natsI o) F)) :: X)) []) ?_ ?_
    · refine H.loadAll 2 rfl agg24 size24 ?_
      have hc := fun h => c216 (setsG (natsI o) N) (by rw [hsl]; omega) (setsG_lt _ _) Bs ds (wideN (natsI o) F) (wideN_lt _ _) w1 h
      rw [hsl] at hc
      refine call_fn (hc (own_Sl (H.get 1 rfl))) ?_
      rintro _ w2 ⟨h, hk⟩
      replace H := H.same hk
      rcases h with ⟨h, rfl⟩ | ⟨j, h, rfl⟩
      · exact ⟨-1, ⟨rfl, trivial⟩, .inl ⟨h, rfl⟩, H⟩
      · exact ⟨(j : Int), ⟨rfl, trivial⟩, .inr ⟨j, h, rfl⟩, H⟩
    clear H
    rintro i u w2 ⟨hi, H⟩
    replace H : Hp _ _ _ _ _ := H
    rcases hi with ⟨hno, rfl⟩ | ⟨j, hj, rfl⟩
    rotate_left
    · refine cond_yes (decide_eq_true (by omega)) ?_
      exact ⟨Bn, dn, Bs, ds, N, (j : Int), rfl, .found (setsG_at ho hNn hFn hj), Hp.forget (H.front 2 rfl)⟩
    refine cut_rule (γ := Unit) _ rfl (fun _ => []) (fun _ w' => Hp w0 (fun _ => False) w' (own 232 3 (.slice Bn N.length dn) N.length (flat encI (ndI N)) :: own 24 4 (.slice Bs (N.length + 2) ds) (N.length + 2) (flat encZ (setsG (natsI o) N)) :: (blk g7 24 (sc (wideN (natsI o) F)) :: X)) []) ?_ ?_
    · refine cond_no (decide_eq_false (by omega)) ?_
      exact ⟨(), trivial, H⟩
    clear H
    rintro ⟨⟩ u w3 H
    replace H : Hp _ _ _ _ _ := H
    have hnr := setsG_no hno
    have hlt : level < o.length := by
      rcases Nat.eq_or_lt_of_le hlev with he | h
      · exfalso
        have hc : ∀ a, F a = F (fun _ => false) := fun a => by
          have hall : ∀ k, k ≤ o.length → F a = F (fun j => if j < k then false else a j) := fun k => by
            induction k with
            | zero => intro _; congr 1
            | succ k ih =>
              intro hk
              rw [ih (by omega)]
              have h1 := hind k (by omega) (fun j => if j < k then false else a j) false
              rw [← h1]
              congr 1
              funext j
              unfold upA
              by_cases hjk : j = k
              · subst hjk; rw [if_pos rfl, if_pos (by omega)]
              · rw [if_neg hjk]
                show (if j < k then false else a j) = _
                by_cases hj : j < k
                · rw [if_pos hj, if_pos (by omega)]
                · rw [if_neg hj, if_neg (by omega)]
          rw [hall o.length (Nat.le_refl _)]
          exact hF _ _ fun k hk => by rw [if_pos hk]
        cases h0 : F (fun _ => false) with
        | false => exact hnr 0 (rep_zero.congr fun a => by rw [hc a, h0])
        | true => exact hnr 1 (rep_one.congr fun a => by rw [hc a, h0])
      · exact h
    obtain ⟨gB, oB, rfl⟩ := hS.A (by omega)
    obtain ⟨hol, hol8⟩ := ord_at hord hlt
    have hgo : (intsI o)[level]? = some (.int .i64 (((natsI o).getD level 0 : Nat) : Int)) := intsI_at hol
    have hside := fun v => wide_side ho F (lev := level) (by rw [hlen]; exact hlt) v
    refine cut_rule (γ := Nat × Nat) _ rfl (fun (g14, d14) => [(14, .slice (some ⟨g14, 0, none⟩) 256 d14)]) (fun (g14, d14) w' => Hp w0 (fun _ => False) w' (own 232 3 (.slice Bn N.length dn) N.length (flat encI (ndI N)) :: own 24 4 (.slice Bs (N.length + 2) ds) (N.length + 2) (flat encZ (setsG (natsI o) N)) :: (own 4 1 (.slice (some ⟨g14, 0, none⟩) 256 d14) 256 (bls (flagsN (wideN (natsI o) F))) :: blk g7 24 (sc (wideN (natsI o) F)) :: X)) []) ?_ ?_
    · refine H.loadAll 2 rfl agg24 size24 ?_
      refine call_fn (c40 _ _) ?_
      rintro _ w4 ⟨A14, d14, rfl, hk⟩
      replace H := H.addNew hk
      obtain ⟨g14, rfl⟩ := H.ownA 0 rfl (by decide)
      exact ⟨(g14, d14), ⟨rfl, trivial⟩, (H.front 2 rfl).front 2 rfl⟩
    clear H
    rintro ⟨g14, d14⟩ u w4 H
    replace H : Hp _ _ _ _ _ := H
    refine cut_rule (γ := Nat) _ rfl (fun g15 => [(15, .pointer (some ⟨g15, 0, none⟩))]) (fun g15 w' => Hp w0 (fun _ => False) w' (own 232 3 (.slice Bn N.length dn) N.length (flat encI (ndI N)) :: own 24 4 (.slice Bs (N.length + 2) ds) (N.length + 2) (flat encZ (setsG (natsI o) N)) :: (own 4 1 (.slice (some ⟨g14, 0, none⟩) 256 d14) 256 (bls (flagsN (wideN (natsI o) F))) :: blk g15 24 (sc (wideN (natsI o) fun a => F (upA a level false))) :: blk g7 24 (sc (wideN (natsI o) F)) :: X)) []) ?_ ?_
    · refine idxAddr_sl Try.underlying32 (s := 1) size3 level rfl hlt (o' := oB + level) (by omega) ?_
      refine H.loadSl (i := level) hS agg3 _ rfl hgo ?_
      refine call_fn (c217 (flagsN (wideN (natsI o) F)) (by simp [flagsN, flagsTo]) _ _ _ (by omega) false _ (own_Sl (H.get 2 rfl))) ?_
      rintro _ w5 ⟨A5, d5, rfl, hk⟩
      replace H := H.addNew hk
      clear hk
      refine call_fn (c38 _ (sideL_length _ _ _) _ _ _ (own_Sl (H.get 0 rfl))) ?_
      rintro _ w6 ⟨rfl, hk⟩
      replace H := (H.same hk).forget
      clear hk
      rw [hside]
      refine H.alloc 24 (cs := sc 0) zero24 sc_zero ?_
      clear H
      intro g15 w7 H
      refine H.storeSet 0 rfl ?_
      clear H
      intro w8 H
      exact ⟨g15, ⟨rfl, trivial⟩, ((H.front 3 rfl).front 3 rfl).front 3 rfl⟩
    clear H
    rintro g15 u w5 H
    replace H : Hp _ _ _ _ _ := H
    refine cut_rule (γ := Nat) _ rfl (fun g16 => [(16, .pointer (some ⟨g16, 0, none⟩))]) (fun g16 w' => Hp w0 (fun _ => False) w' (own 232 3 (.slice Bn N.length dn) N.length (flat encI (ndI N)) :: own 24 4 (.slice Bs (N.length + 2) ds) (N.length + 2) (flat encZ (setsG (natsI o) N)) :: (own 4 1 (.slice (some ⟨g14, 0, none⟩) 256 d14) 256 (bls (flagsN (wideN (natsI o) F))) :: blk g16 24 (sc (wideN (natsI o) fun a => F (upA a level true))) :: blk g15 24 (sc (wideN (natsI o) fun a => F (upA a level false))) :: blk g7 24 (sc (wideN (natsI o) F)) :: X)) []) ?_ ?_
    · refine idxAddr_sl Try.underlying32 (s := 1) size3 level rfl hlt (o' := oB + level) (by omega) ?_
      refine H.loadSl (i := level) hS agg3 _ rfl hgo ?_
      refine call_fn (c217 (flagsN (wideN (natsI o) F)) (by simp [flagsN, flagsTo]) _ _ _ (by omega) true _ (own_Sl (H.get 2 rfl))) ?_
      rintro _ w5 ⟨A5, d5, rfl, hk⟩
      replace H := H.addNew hk
      clear hk
      refine call_fn (c38 _ (sideL_length _ _ _) _ _ _ (own_Sl (H.get 0 rfl))) ?_
      rintro _ w6 ⟨rfl, hk⟩
      replace H := (H.same hk).forget
      clear hk
      rw [hside]
      refine H.alloc 24 (cs := sc 0) zero24 sc_zero ?_
      clear H
      intro g16 w7 H
      refine H.storeSet 0 rfl ?_
      clear H
      intro w8 H
      exact ⟨g16, ⟨rfl, trivial⟩, ((H.front 3 rfl).front 3 rfl).front 3 rfl⟩
    clear H
    rintro g16 u w5 H
    replace H : Hp _ _ _ _ _ := H
    have H := Hp.forget (H.front 2 rfl)
    have hup : IntKind.i64.wrap ((level : Int) + 1) = ((level + 1 : Nat) : Int) := by rw [wrap_i64_in (by omega) (by omega)]; omega
    by_cases hdep : Indep F level
    · have hsame := halves_of_indep hdep
      have hc := fun w h => IH (level + 1) F N Bn dn Bs ds (blk g16 24 (sc (wideN (natsI o) fun a => F (upA a level true))) :: blk g15 24 (sc (wideN (natsI o) fun a => F (upA a level false))) :: blk g7 24 (sc (wideN (natsI o) F)) :: X) w (by omega) (by omega) hF (fun j hj => by
        rcases Nat.lt_succ_iff_lt_or_eq.1 hj with h | h
        · exact hind j h
        · rw [h]; exact hdep) hN (by omega) h
      rw [← hup] at hc
      refine H.loadAll 3 rfl agg24 size24 ?_
      refine H.loadAll 2 rfl agg24 size24 ?_
      refine bin_eql24 (wideN_lt _ _) (wideN_lt _ _) ?_
      refine cond_yes (by rw [hsame]; exact beq_self_eq_true _) ?_
      refine H.loadAll 4 rfl agg24 size24 ?_
      refine call_fn (hc _ H) ?_
      rintro _ w6 ⟨Bn', dn', Bs', ds', N', id, rfl, hb, H⟩
      exact ⟨Bn', dn', Bs', ds', N', id, rfl, hb, Hp.forget (Hp.front (Hp.forget (Hp.front (Hp.forget (Hp.front H 2 rfl)) 2 rfl)) 2 rfl)⟩
    have hdw : wideN (natsI o) (fun a => F (upA a level false)) ≠ wideN (natsI o) fun a => F (upA a level true) := fun h => hdep (indep_of_halves (wide_inj ho (by rw [hlen]; exact hF.up level false) (by rw [hlen]; exact hF.up level true) h))
    refine cut_rule (γ := Unit) _ rfl (fun _ => []) (fun _ w' => Hp w0 (fun _ => False) w' (own 232 3 (.slice Bn N.length dn) N.length (flat encI (ndI N)) :: own 24 4 (.slice Bs (N.length + 2) ds) (N.length + 2) (flat encZ (setsG (natsI o) N)) :: (blk g16 24 (sc (wideN (natsI o) fun a => F (upA a level true))) :: blk g15 24 (sc (wideN (natsI o) fun a => F (upA a level false))) :: blk g7 24 (sc (wideN (natsI o) F)) :: X)) []) ?_ ?_
    · refine H.loadAll 3 rfl agg24 size24 ?_
      refine H.loadAll 2 rfl agg24 size24 ?_
      refine bin_eql24 (wideN_lt _ _) (wideN_lt _ _) ?_
      refine cond_no (by simpa using hdw) ?_
      exact ⟨(), trivial, H⟩
    clear H
    rintro ⟨⟩ u w6 H
    replace H : Hp _ _ _ _ _ := H
    have hlow := hF.up level false
    have hhigh := hF.up level true
    have hind' : ∀ v j, j < level + 1 → Indep (fun a => F (upA a level v)) j := fun v j hj => half_indep2 F level v (by omega) hind
    refine cut_rule (γ := Option Addr × Nat × Option Addr × Nat × List Nd × Int) _ rfl (fun (Bn', dn', Bs', ds', N', id) => [(0, .slice Bn' N'.length dn'), (1, .slice Bs' (N'.length + 2) ds'), (17, .int .i64 id)]) (fun (Bn', dn', Bs', ds', N', id) w' => Bld N (fun b => F (upA b level false)) N' id ∧ Hp w0 (fun _ => False) w' (own 232 3 (.slice Bn' N'.length dn') N'.length (flat encI (ndI N')) :: own 24 4 (.slice Bs' (N'.length + 2) ds') (N'.length + 2) (flat encZ (setsG (natsI o) N')) :: (blk g16 24 (sc (wideN (natsI o) fun a => F (upA a level true))) :: blk g15 24 (sc (wideN (natsI o) fun a => F (upA a level false))) :: blk g7 24 (sc (wideN (natsI o) F)) :: X)) []) ?_ ?_
    · have hc := fun w h => IH (level + 1) (fun a => F (upA a level false)) N Bn dn Bs ds (blk g16 24 (sc (wideN (natsI o) fun a => F (upA a level true))) :: blk g15 24 (sc (wideN (natsI o) fun a => F (upA a level false))) :: blk g7 24 (sc (wideN (natsI o) F)) :: X) w (by omega) (by omega) hlow (hind' false) hN (by omega) h
      rw [← hup] at hc
      refine H.loadAll 3 rfl agg24 size24 ?_
      refine call_fn (hc _ H) ?_
      rintro _ w7 ⟨Bn', dn', Bs', ds', N', id, rfl, hb, H⟩
      exact ⟨(Bn', dn', Bs', ds', N', id), ⟨rfl, rfl, rfl, trivial⟩, hb, H⟩
    clear H
    rintro ⟨Bn1, dn1, Bs1, ds1, N1, lo⟩ u w7 ⟨hb1, H⟩
    replace hb1 : Bld N (fun b => F (upA b level false)) N1 lo := hb1
    replace H : Hp _ _ _ _ _ := H
    have h256 := pow_le_256 ho8
    have m1 := bld_made (by omega) (room := (N1.length : Int) + 1) hb1 hN hlow (by omega)
    have l1 := made_few m1 (low_hangs hlow)
    rw [arN_live, arN_live, List.length_range] at l1
    refine cut_rule (γ := Option Addr × Nat × Option Addr × Nat × List Nd × Int) _ rfl (fun (Bn', dn', Bs', ds', N', id) => [(0, .slice Bn' N'.length dn'), (1, .slice Bs' (N'.length + 2) ds'), (18, .int .i64 id)]) (fun (Bn', dn', Bs', ds', N', id) w' => Bld N1 (fun b => F (upA b level true)) N' id ∧ Hp w0 (fun _ => False) w' (own 232 3 (.slice Bn' N'.length dn') N'.length (flat encI (ndI N')) :: own 24 4 (.slice Bs' (N'.length + 2) ds') (N'.length + 2) (flat encZ (setsG (natsI o) N')) :: (blk g16 24 (sc (wideN (natsI o) fun a => F (upA a level true))) :: blk g15 24 (sc (wideN (natsI o) fun a => F (upA a level false))) :: blk g7 24 (sc (wideN (natsI o) F)) :: X)) []) ?_ ?_
    · have hc := fun w h => IH (level + 1) (fun a => F (upA a level true)) N1 Bn1 dn1 Bs1 ds1 (blk g16 24 (sc (wideN (natsI o) fun a => F (upA a level true))) :: blk g15 24 (sc (wideN (natsI o) fun a => F (upA a level false))) :: blk g7 24 (sc (wideN (natsI o) F)) :: X) w (by omega) (by omega) hhigh (hind' true) m1.inv (by omega) h
      rw [← hup] at hc
      refine H.loadAll 2 rfl agg24 size24 ?_
      refine call_fn (hc _ H) ?_
      rintro _ w8 ⟨Bn', dn', Bs', ds', N', id, rfl, hb, H⟩
      exact ⟨(Bn', dn', Bs', ds', N', id), ⟨rfl, rfl, rfl, trivial⟩, hb, H⟩
    clear H
    rintro ⟨Bn2, dn2, Bs2, ds2, N2, hi⟩ u w8 ⟨hb2, H⟩
    replace hb2 : Bld N1 (fun b => F (upA b level true)) N2 hi := hb2
    replace H : Hp _ _ _ _ _ := H
    have m2 := bld_made (by omega) (room := (N2.length : Int) + 1) hb2 m1.inv hhigh (by omega)
    have l2 := made_few m2 (low_hangs hhigh)
    rw [arN_live, arN_live, List.length_range] at l2
    have hnew := node_new (by omega) hN hF hnr hind hdep hb1 hb2
    have hbld := Bld.node hnr hind hdep hb1 hb2
    rw [hnew] at hbld
    have m3 := bld_made (by omega) (room := ((N2.length + 1 : Nat) : Int) + 1) hbld hN hF (by rw [List.length_append]; show ((N2.length + 1 : Nat) : Int) < _; omega)
    obtain ⟨lo', rfl⟩ := Int.eq_ofNat_of_zero_le (lvlA_nonneg m1.ok.there)
    obtain ⟨hi', rfl⟩ := Int.eq_ofNat_of_zero_le (lvlA_nonneg m2.ok.there)
    have hbld' : Bld N F (N2 ++ [⟨level, lo', hi'⟩]) ((N2.length + 2 : Nat) : Int) := hbld
    have hinv3 : BInv o.length (arN (N2 ++ [⟨level, lo', hi'⟩])) := m3.inv
    have hrep3 : Rep (arN (N2 ++ [⟨level, lo', hi'⟩])) ((N2.length + 2 : Nat) : Int) F := m3.ok
    have hsets := setsG_ext (o := natsI o) m2.inv hinv3 (by rw [← arN_put]; exact ext_put) (by rw [List.length_append]; rfl)
    have hsem3 : sem (arN (N2 ++ [⟨level, lo', hi'⟩])) ((N2.length : Int) + 2) = F := by
      funext a
      have := hrep3.says a
      rwa [show ((N2.length + 2 : Nat) : Int) = (N2.length : Int) + 2 by omega] at this
    rw [hsem3] at hsets
    have hlen3 : (N2 ++ [(⟨level, lo', hi'⟩ : Nd)]).length = N2.length + 1 := by rw [List.length_append]; rfl
    have hdone : ∀ (w9 : World) (A6 : Option Addr) (d6 : Nat) (A10 : Option Addr) (d10 : Nat), Hp w0 (fun _ => False) w9 (own 232 3 (.slice A6 (N2.length + 1) d6) (N2.length + 1) (flat encI (ndI N2) ++ (k3c level lo' hi').toList) :: own 24 4 (.slice A10 (N2.length + 2 + 1) d10) (N2.length + 2 + 1) (flat encZ (setsG (natsI o) N2) ++ (sc (wideN (natsI o) F)).toList) :: X) [] →
        ∃ Bn' dn' Bs' ds' N' id, Value.tuple #[.slice A6 (N2.length + 1) d6, .slice A10 (N2.length + 2 + 1) d10, .int .i64 ((N2.length + 2 : Nat) : Int)] = .tuple #[.slice Bn' N'.length dn', .slice Bs' (N'.length + 2) ds', .int .i64 id] ∧ Bld N F N' id ∧ Hp w0 (fun _ => False) w9 (own 232 3 (.slice Bn' N'.length dn') N'.length (flat encI (ndI N')) :: own 24 4 (.slice Bs' (N'.length + 2) ds') (N'.length + 2) (flat encZ (setsG (natsI o) N')) :: X) [] := fun w9 A6 d6 A10 d10 H => by
      refine ⟨A6, d6, A10, d10, N2 ++ [⟨level, lo', hi'⟩], ((N2.length + 2 : Nat) : Int), ?_, hbld', ?_⟩
      · rw [hlen3]
      · rw [hlen3, hsets, show ndI (N2 ++ [⟨level, lo', hi'⟩]) = ndI N2 ++ [i3 ⟨level, lo', hi'⟩] from List.map_append, flat_snoc, flat_snoc]
        exact H
    refine draw_orders (fun u => Hp w0 (fun _ => False) u (blk g16 24 (sc (wideN (natsI o) fun a => F (upA a level true))) :: blk g15 24 (sc (wideN (natsI o) fun a => F (upA a level false))) :: blk g7 24 (sc (wideN (natsI o) F)) :: X) [])
      [([5, 6, 9, 10], [0, 1, 2, 3, 4, 7, 8, 11, 12, 5, 6, 9, 10, 13, 14, 15]), ([5, 9, 6, 10], [0, 1, 2, 3, 4, 7, 8, 11, 12, 5, 9, 6, 10, 13, 14, 15]), ([9, 5, 6, 10], [0, 1, 2, 3, 4, 7, 8, 11, 12, 9, 5, 6, 10, 13, 14, 15])] fol (by kernel_rfl) (Hp.forget (Hp.forget (H.same (Keeps.drew _)))) ?_
    replace H := H.same (Keeps.drew _)
    generalize w8.drew = w9 at H
    intro x hx
    simp only [List.mem_cons, List.not_mem_nil, or_false] at hx
    rcases hx with rfl | rfl | rfl
    · refine quiet _ (fun w H => build232 ⟨rfl, rfl⟩) ?_
      refine quiet _ (fun w H => Hp.loadAll H 2 rfl agg24 size24 ⟨rfl, rfl⟩) ?_
      refine quiet _ (fun w H => len_sl Try.underlying111 ⟨rfl, rfl⟩) ?_
      refine Hp.buildSl H T153 (n := 1) (cs := k3c level lo' hi') (by omega) (by omega) (by kernel_rfl) ?_
      clear H
      intro g5 w30 H
      refine ⟨.inl (Hp.forget (Hp.forget (Hp.forget H))), ?_⟩
      refine Hp.appendBlk H 1 0 T153 rfl rfl rfl (fun v hv => encI_one ((level : Int), (lo' : Int), (hi' : Int)) v hv) (by omega) (by omega) ?_
      clear H
      intro A6 d6 w31 H
      refine ⟨.inl (Hp.forget (Hp.forget (Hp.forget H))), ?_⟩
      refine Hp.buildSl H T111 (n := 1) (cs := sc (wideN (natsI o) F)) (by omega) (by omega) (by kernel_rfl) ?_
      clear H
      intro g9 w32 H
      refine ⟨.inl (Hp.forget (Hp.forget (Hp.forget (Hp.forget H)))), ?_⟩
      refine Hp.appendBlk H 3 0 T111 rfl rfl rfl (sc_one _) (by omega) (by omega) ?_
      clear H
      intro A10 d10 w33 H
      refine ⟨.inl (Hp.forget (Hp.forget (Hp.forget (Hp.forget H)))), ?_⟩
      exact hdone _ _ _ _ _ (Hp.forget (Hp.front (Hp.forget (Hp.front (Hp.forget (Hp.front (Hp.forget (Hp.front (Hp.forget (Hp.front (Hp.front (Hp.front H 3 rfl) 3 rfl) 2 rfl)) 2 rfl)) 2 rfl)) 2 rfl)) 2 rfl))
    · refine quiet _ (fun w H => build232 ⟨rfl, rfl⟩) ?_
      refine quiet _ (fun w H => Hp.loadAll H 2 rfl agg24 size24 ⟨rfl, rfl⟩) ?_
      refine quiet _ (fun w H => len_sl Try.underlying111 ⟨rfl, rfl⟩) ?_
      refine Hp.buildSl H T153 (n := 1) (cs := k3c level lo' hi') (by omega) (by omega) (by kernel_rfl) ?_
      clear H
      intro g5 w30 H
      refine ⟨.inl (Hp.forget (Hp.forget (Hp.forget H))), ?_⟩
      refine Hp.buildSl H T111 (n := 1) (cs := sc (wideN (natsI o) F)) (by omega) (by omega) (by kernel_rfl) ?_
      clear H
      intro g9 w31 H
      refine ⟨.inl (Hp.forget (Hp.forget (Hp.forget (Hp.forget H)))), ?_⟩
      refine Hp.appendBlk H 2 1 T153 rfl rfl rfl (fun v hv => encI_one ((level : Int), (lo' : Int), (hi' : Int)) v hv) (by omega) (by omega) ?_
      clear H
      intro A6 d6 w32 H
      refine ⟨.inl (Hp.forget (Hp.forget (Hp.forget (Hp.forget H)))), ?_⟩
      refine Hp.appendBlk H 3 0 T111 rfl rfl rfl (sc_one _) (by omega) (by omega) ?_
      clear H
      intro A10 d10 w33 H
      refine ⟨.inl (Hp.forget (Hp.forget (Hp.forget (Hp.forget H)))), ?_⟩
      exact hdone _ _ _ _ _ (Hp.forget (Hp.front (Hp.forget (Hp.front (Hp.forget (Hp.front (Hp.forget (Hp.front (Hp.forget (Hp.front (Hp.front (Hp.front H 3 rfl) 3 rfl) 2 rfl)) 2 rfl)) 2 rfl)) 2 rfl)) 2 rfl))
    · refine quiet _ (fun w H => build232 ⟨rfl, rfl⟩) ?_
      refine quiet _ (fun w H => Hp.loadAll H 2 rfl agg24 size24 ⟨rfl, rfl⟩) ?_
      refine quiet _ (fun w H => len_sl Try.underlying111 ⟨rfl, rfl⟩) ?_
      refine Hp.buildSl H T111 (n := 1) (cs := sc (wideN (natsI o) F)) (by omega) (by omega) (by kernel_rfl) ?_
      clear H
      intro g9 w30 H
      refine ⟨.inl (Hp.forget (Hp.forget (Hp.forget H))), ?_⟩
      refine Hp.buildSl H T153 (n := 1) (cs := k3c level lo' hi') (by omega) (by omega) (by kernel_rfl) ?_
      clear H
      intro g5 w31 H
      refine ⟨.inl (Hp.forget (Hp.forget (Hp.forget (Hp.forget H)))), ?_⟩
      refine Hp.appendBlk H 2 0 T153 rfl rfl rfl (fun v hv => encI_one ((level : Int), (lo' : Int), (hi' : Int)) v hv) (by omega) (by omega) ?_
      clear H
      intro A6 d6 w32 H
      refine ⟨.inl (Hp.forget (Hp.forget (Hp.forget (Hp.forget H)))), ?_⟩
      refine Hp.appendBlk H 3 1 T111 rfl rfl rfl (sc_one _) (by omega) (by omega) ?_
      clear H
      intro A10 d10 w33 H
      refine ⟨.inl (Hp.forget (Hp.forget (Hp.forget (Hp.forget H)))), ?_⟩
      exact hdone _ _ _ _ _ (Hp.forget (Hp.front (Hp.forget (Hp.front (Hp.forget (Hp.front (Hp.forget (Hp.front (Hp.forget (Hp.front (Hp.front (Hp.front H 3 rfl) 3 rfl) 2 rfl)) 2 rfl)) 2 rfl)) 2 rfl)) 2 rfl))
end Go.Proofs.Ytjebpngdinbckaa
end

section
/- Graphs: the document's Of. -/
namespace Go.Proofs.Ytjebpngdinbckaa
open Go.Dk
attribute [local irreducible] IntKind.wrap
theorem FnS_low' {o : List Int} (h : OrdI o) (s : Nat) : Low o.length (FnS (natsI o) s) := by
  have := FnS_low h.nats s; rwa [natsI_length] at this
theorem sl_nil232 (w : World) : Sl w (.slice none 0 0) 3 ([] : List I3).length (flat encI []) := ⟨rfl, none, 0, rfl, Nat.le_refl _, .inl rfl⟩
theorem sl_nil1 (w : World) : Sl w (.slice none 0 0) 1 ([] : List Int).length (intsI []) := ⟨rfl, none, 0, rfl, Nat.le_refl _, .inl rfl⟩

theorem pt_mod {o : List Nat} (ho : OrdO o) (p : Nat) : ptA o (asgP o p) = p % 2 ^ o.length := bits_ext fun j => by
  rw [Nat.testBit_mod_two_pow]
  by_cases hj : j < o.length
  · rw [testBit_ptA _ hj, decide_eq_true hj, Bool.true_and]
    unfold asgP
    rw [decide_eq_true (ho.idx_lt hj), Bool.true_and, ho.get_idx hj]
  · rw [decide_eq_false hj, Bool.false_and]
    exact Nat.testBit_lt_two_pow (Nat.lt_of_lt_of_le (ptA_lt o _) (Nat.pow_le_pow_right (by decide) (by omega)))
theorem wide_FnS {o : List Nat} (ho : OrdO o) (s : Nat) : (setOf fun p => s.testBit (p % 2 ^ o.length)) = wideN o (FnS o s) := by
  unfold wideN
  congr 1
  funext p
  show _ = s.testBit (ptA o (asgP o p))
  rw [pt_mod ho]
theorem all_eight : ofFlags (allFlags 8) = setOf fun _ => true := by
  refine set_ext (ofFlags_lt _) (setOf_lt _) fun p hp => ?_
  rw [flags_all]
  unfold allN
  rw [testBit_setOf, testBit_setOf, decide_eq_true (show p < 2 ^ 8 from hp)]
theorem setsG_nil (o : List Nat) : setsG o [] = [0, ofFlags (allFlags 8)] := by
  have h0 : wideN o (sem (arN []) ((0 : Nat) : Int)) = 0 := by
    refine set_ext (setOf_lt _) (by decide) fun p hp => ?_
    unfold wideN
    rw [testBit_setOf, Nat.zero_testBit, show ((0 : Nat) : Int) = 0 from rfl, sem_none (nd_end (.inl rfl))]; simp
  have h1 : wideN o (sem (arN []) ((1 : Nat) : Int)) = ofFlags (allFlags 8) := by
    rw [all_eight]
    refine congrArg setOf (funext fun p => ?_)
    rw [show ((1 : Nat) : Int) = 1 from rfl, sem_none (nd_end (.inr rfl))]; rfl
  show [wideN o (sem (arN []) ((0 : Nat) : Int)), wideN o (sem (arN []) ((1 : Nat) : Int))] = _
  rw [h0, h1]
theorem build111 {w0 w : World} {F : Nat → Prop} {L M : List Res} (H : Hp w0 F w L M) (a b : Nat) {k : Value → World → Prop}
    (h : ∀ g w', Hp w0 F w' (own 24 4 (.slice (some ⟨g, 0, none⟩) 2 2) 2 (flat encZ [a, b]) :: L) M → k (.slice (some ⟨g, 0, none⟩) 2 2) w') : buildSliceK Try.prog 111 2 [(0, sv a), (1, sv b)] w k := by
  refine H.buildSl T111 (n := 2) (cs := sc a ++ sc b) (by omega) (by omega) (by kernel_rfl) ?_
  intro g w' H
  refine h g w' (H.re (fun hb => ?_) (fun y hy => by
    have hy : some g = some y := hy
    injection hy with hy
    exact hy.symm))
  have hcs : (sc a ++ sc b).size = 2 * 4 := rfl
  have e : flat encZ [a, b] = (sc a ++ sc b).toList := by
    show encZ a ++ (encZ b ++ []) = _
    rw [List.append_nil, Array.toList_append]; rfl
  rw [e]
  exact ⟨rfl, .inr ⟨g, 2, sc a ++ sc b, rfl, Nat.zero_le _, hb, Nat.le_refl _, by decide, hcs, by rw [← hcs, ← Array.length_toList]; exact List.take_length⟩⟩
theorem ent136 : enters Try.prog 136 = true := by kernel_rfl
theorem c136 {o : List Int} (hord : OrdI o) (s : Nat) (hs : s < 2 ^ 256) (B : Option Addr) (co : Nat) (w : World) (hS : Sl w (.slice B o.length co) 1 o.length (intsI o)) :
    Fun Try.prog 136 [sv s, .slice B o.length co] w fun v w' => ∃ Bn dn N root, v = grV (.slice B o.length co) (.slice Bn N.length dn) root ∧ IsGraph (FnS (natsI o) s) N root ∧ NewR w w' (own 232 3 (.slice Bn N.length dn) N.length (flat encI (ndI N))) := by
  refine fun_of_W (N := 56) Try.func136 ent136 rfl rfl rfl (by simp) ?_
  have H := Hp.start0 w
  have ho := hord.nats
  have ho8 := hord.le
  have hlen := natsI_length o
  have h256 := pow_le_256 ho8
  refine cut_rule (γ := Nat × Nat) _ rfl (fun (g2, g4) => [(2, .pointer (some ⟨g2, 0, none⟩)), (4, .pointer (some ⟨g4, 0, none⟩))]) (fun (g2, g4) w' => Hp w (fun _ => False) w' [blk g4 155 (grC (.slice none 0 0) (.slice none 0 0) 0), blk g2 24 (sc s)] []) ?_ ?_
  · refine H.box 24 _ (cs := sc s) rfl ?_
    clear H
    intro g2 w1 H
    refine H.alloc 155 (cs := grC (.slice none 0 0) (.slice none 0 0) 0) zero155 rfl ?_
    clear H
    intro g4 w2 H
    exact ⟨(g2, g4), ⟨rfl, rfl, trivial⟩, H⟩
  clear H
  rintro ⟨g2, g4⟩ u w1 H
  replace H : Hp _ _ _ _ _ := H
  refine cut_rule (γ := Nat × Nat) _ rfl (fun (g5, d5) => [(5, .slice (some ⟨g5, 0, none⟩) 256 d5)]) (fun (g5, d5) w' => Hp w (fun _ => False) w' [own 4 1 (.slice (some ⟨g5, 0, none⟩) 256 d5) 256 (bls (flagsN s)), blk g4 155 (grC (.slice none 0 0) (.slice none 0 0) 0)] []) ?_ ?_
  · refine H.loadAll 1 rfl agg24 size24 ?_
    refine call_fn (c40 _ _) ?_
    rintro _ w4 ⟨A14, d14, rfl, hk⟩
    replace H := H.addNew hk
    obtain ⟨g14, rfl⟩ := H.ownA 0 rfl (by decide)
    exact ⟨(g14, d14), ⟨rfl, trivial⟩, H.takeN 2⟩
  clear H
  rintro ⟨g5, d5⟩ u w2 H
  replace H : Hp _ _ _ _ _ := H
  refine cut_rule (γ := Unit) _ rfl (fun _ => [(6, .int .i64 1)]) (fun _ w' => Hp w (fun _ => False) w' [own 4 1 (.slice (some ⟨g5, 0, none⟩) 256 d5) 256 (bls (flagsN s)), blk g4 155 (grC (.slice none 0 0) (.slice none 0 0) 0)] []) ⟨(), ⟨rfl, trivial⟩, H⟩ ?_
  clear H
  rintro ⟨⟩ u w2 H
  replace H : Hp _ _ _ _ _ := H
  refine cut_rule (γ := Unit) _ rfl (fun _ => [(6, .int .i64 ((2 ^ o.length : Nat) : Int))]) (fun _ w' => Hp w (fun _ => False) w' [own 4 1 (.slice (some ⟨g5, 0, none⟩) 256 d5) 256 (bls (flagsN s)), blk g4 155 (grC (.slice none 0 0) (.slice none 0 0) 0)] []) ?_ ?_
  · refine loop_rule (γ := Nat) _ rfl (fun j => [(7, .int .i64 (j : Int)), (6, .int .i64 ((2 ^ j : Nat) : Int))]) (fun j w' => j ≤ o.length ∧ Hp w (fun _ => False) w' [own 4 1 (.slice (some ⟨g5, 0, none⟩) 256 d5) 256 (bls (flagsN s)), blk g4 155 (grC (.slice none 0 0) (.slice none 0 0) 0)] []) (fun j => o.length - j) 0 ⟨rfl, rfl, trivial⟩ ⟨Nat.zero_le _, H⟩ ?_
    clear H
    rintro j u w2 ⟨hj, H⟩
    replace H : Hp _ _ _ _ _ := H
    refine len_sl Try.underlying32 ?_
    refine cond_dec (fun h9 => ?_) (fun h9 => ?_)
    · have h2 : 2 ^ (j + 1) ≤ 2 ^ o.length := Nat.pow_le_pow_right (by decide) (by omega)
      have e2 : 2 ^ (j + 1) = 2 ^ j * 2 := Nat.pow_succ ..
      exact ⟨j + 1, by show o.length - (j + 1) < o.length - j; omega, ⟨up (by omega), congrArg (Value.int .i64) (by rw [wrap_i64_in (by omega) (by omega)]; omega), trivial⟩, by show j + 1 ≤ o.length; omega, H⟩
    · obtain rfl : j = o.length := by omega
      exact ⟨(), ⟨rfl, trivial⟩, H⟩
  clear H
  rintro ⟨⟩ u w2 H
  replace H : Hp _ _ _ _ _ := H
  refine cut_rule (γ := Nat) _ rfl (fun g8 => [(8, .slice (some ⟨g8, 0, none⟩) 256 256)]) (fun g8 w' => Hp w (fun _ => False) w' [own 4 1 (.slice (some ⟨g8, 0, none⟩) 256 256) 256 (bls (upF (fun p => s.testBit (p % 2 ^ o.length)) (fun _ => false) 0)), own 4 1 (.slice (some ⟨g5, 0, none⟩) 256 d5) 256 (bls (flagsN s)), blk g4 155 (grC (.slice none 0 0) (.slice none 0 0) 0)] []) ?_ ?_
  · refine H.make T29 256 rfl rfl (by decide) (by decide) ?_
    clear H
    intro g8 w3 H
    rw [madeBool] at H
    exact ⟨g8, ⟨rfl, trivial⟩, by rw [upF_false]; exact H⟩
  clear H
  rintro g8 u w3 H
  replace H : Hp _ _ _ _ _ := H
  refine cut_rule (γ := Unit) _ rfl (fun _ => []) (fun _ w' => Hp w (fun _ => False) w' [own 4 1 (.slice (some ⟨g8, 0, none⟩) 256 256) 256 (bls (upF (fun p => s.testBit (p % 2 ^ o.length)) (fun _ => false) 256)), blk g4 155 (grC (.slice none 0 0) (.slice none 0 0) 0)] []) ?_ ?_
  · refine loop_rule (γ := Nat) _ rfl (fun k => [(9, .int .i64 (k : Int))]) (fun k w' => k ≤ 256 ∧ Hp w (fun _ => False) w' [own 4 1 (.slice (some ⟨g8, 0, none⟩) 256 256) 256 (bls (upF (fun p => s.testBit (p % 2 ^ o.length)) (fun _ => false) k)), own 4 1 (.slice (some ⟨g5, 0, none⟩) 256 d5) 256 (bls (flagsN s)), blk g4 155 (grC (.slice none 0 0) (.slice none 0 0) 0)] []) (fun k => 256 - k) 0 ⟨rfl, trivial⟩ ⟨Nat.zero_le _, H⟩ ?_
    clear H
    rintro k u w4 ⟨hk, H⟩
    replace H : Hp _ _ _ _ _ := H
    refine cond_dec (fun h7 => ?_) (fun h7 => ?_)
    · have hk8 : k < 256 := by omega
      have hpos := Nat.two_pow_pos o.length
      have hmod : k % 2 ^ o.length < 256 := Nat.lt_of_le_of_lt (Nat.mod_le _ _) hk8
      refine bin_rem_i64 (by omega) (by omega) ?_
      refine idxAddr_sl Try.underlying29 (s := 1) size4 (k % 2 ^ o.length) (by rfl) hmod (o' := k % 2 ^ o.length) (by omega) ?_
      refine H.loadOwn 1 rfl agg4 (flagsN_get hmod) ?_
      refine idxAddr_sl Try.underlying29 (s := 1) size4 k rfl hk8 (o' := k) (by omega) ?_
      refine H.storeOwn 0 rfl size4 (by rw [bls, List.length_map, upF_length]; omega) rfl ?_
      clear H
      intro w8 H
      rw [← bls_set, upF_set (f := fun p => s.testBit (p % 2 ^ o.length)) hk8] at H
      exact ⟨k + 1, by show 256 - (k + 1) < 256 - k; omega, ⟨up (by omega), trivial⟩, by show k + 1 ≤ 256; omega, H⟩
    · obtain rfl : k = 256 := by omega
      exact ⟨(), trivial, H.sel [0, 2] (by decide) rfl⟩
  clear H
  rintro ⟨⟩ u w4 H
  replace H : Hp _ _ _ _ _ := H
  refine cut_rule (γ := Unit) _ rfl (fun _ => [(10, .slice none 0 0)]) (fun _ w' => Hp w (fun _ => False) w' [own 4 1 (.slice (some ⟨g8, 0, none⟩) 256 256) 256 (bls (upF (fun p => s.testBit (p % 2 ^ o.length)) (fun _ => false) 256)), blk g4 155 (grC (.slice none 0 0) (.slice none 0 0) 0)] []) ⟨(), ⟨rfl, trivial⟩, H⟩ ?_
  clear H
  rintro ⟨⟩ u w4 H
  replace H : Hp _ _ _ _ _ := H
  refine cut_rule (γ := Nat) _ rfl (fun g11 => [(11, .slice (some ⟨g11, 0, none⟩) 2 2)]) (fun g11 w' => Hp w (fun _ => False) w' [own 232 3 (.slice none 0 0) 0 [], own 24 4 (.slice (some ⟨g11, 0, none⟩) 2 2) 2 (flat encZ (setsG (natsI o) [])), own 4 1 (.slice (some ⟨g8, 0, none⟩) 256 256) 256 (bls (upF (fun p => s.testBit (p % 2 ^ o.length)) (fun _ => false) 256)), blk g4 155 (grC (.slice none 0 0) (.slice none 0 0) 0)] []) ?_ ?_
  · refine build24z ?_
    refine call_fn (c39 8 (by decide) _) ?_
    rintro _ w5 ⟨A5, d5, rfl, hk⟩
    replace H := H.addNew hk
    clear hk
    refine call_fn (c38 _ (by simp [allFlags]) _ _ _ (own_Sl (H.get 0 rfl))) ?_
    rintro _ w6 ⟨rfl, hk⟩
    replace H := (H.same hk).forget
    clear hk
    refine build111 H 0 (ofFlags (allFlags 8)) ?_
    clear H
    intro g11 w7 H
    exact ⟨g11, ⟨rfl, trivial⟩, by rw [setsG_nil]; exact H.ownNil 232 3⟩
  clear H
  rintro g11 u w5 H
  replace H : Hp _ _ _ _ _ := H
  refine cut_rule (γ := Option Addr × Nat × List Nd × Int) _ rfl (fun (Bn, dn, N, root) => [(10, .slice Bn N.length dn), (13, .int .i64 root)]) (fun (Bn, dn, N, root) w' => IsGraph (FnS (natsI o) s) N root ∧ Hp w (fun _ => False) w' [own 232 3 (.slice Bn N.length dn) N.length (flat encI (ndI N)), blk g4 155 (grC (.slice none 0 0) (.slice none 0 0) 0)] []) ?_ ?_
  · refine call_fn (c38 _ (upF_length _ _ _) _ _ _ (own_Sl (H.get 2 rfl))) ?_
    rintro _ w6 ⟨rfl, hk⟩
    replace H := H.same hk
    clear hk
    have hw : ofFlags (upF (fun p => s.testBit (p % 2 ^ o.length)) (fun _ => false) 256) = wideN (natsI o) (FnS (natsI o) s) := by
      rw [upF_all, ← wide_FnS ho, hlen]
    rw [hw]
    have hlow : Low o.length (FnS (natsI o) s) := by have := FnS_low ho s; rwa [hlen] at this
    refine call_fn (c197 hord B co w hS 10 0 (FnS (natsI o) s) [] none 0 (some ⟨g11, 0, none⟩) 2 [own 4 1 (.slice (some ⟨g8, 0, none⟩) 256 256) 256 (bls (upF (fun p => s.testBit (p % 2 ^ o.length)) (fun _ => false) 256)), blk g4 155 (grC (.slice none 0 0) (.slice none 0 0) 0)] _ (Nat.zero_le _) (by omega) hlow (fun j hj => by omega) (BInv.nil _) (by show 0 + 1000 * (o.length + 1 - 0) ≤ 100000; omega) H) ?_
    rintro _ w7 ⟨Bn, dn, Bs, ds, N, root, rfl, hb, H⟩
    exact ⟨(Bn, dn, N, root), ⟨rfl, rfl, trivial⟩, hb, Hp.sel H [0, 3] (by decide) rfl⟩
  clear H
  rintro ⟨Bn, dn, N, root⟩ u w6 ⟨hgr, H⟩
  replace H : Hp _ _ _ _ _ := H
  refine build155f ?_
  refine H.storeAll 1 rfl size155 rfl (grC_one _ _ _ _ _ _ _) ?_
  clear H
  intro w7 H
  refine H.loadAll 1 rfl agg155 size155 ?_
  refine ⟨rfl, ?_⟩
  exact ⟨Bn, dn, N, root, rfl, hgr, H.out⟩
end Go.Proofs.Ytjebpngdinbckaa
end

section
/- Graphs: c138 (Swapped). -/
namespace Go.Proofs.Ytjebpngdinbckaa
open Go.Dk
attribute [local irreducible] IntKind.wrap

theorem swx {k i : Nat} (h : i ≠ k + 1) : sw k i = (if i = k then k + 1 else i) := by
  unfold sw
  by_cases e : i = k
  · rw [if_pos e, if_pos e]
  · rw [if_neg e, if_neg e, if_neg h]
theorem ent138 : enters Try.prog 138 = true := by kernel_rfl
theorem c138 (o : List Int) (B : Option Addr) (co k : Nat) (hk : k + 1 < o.length) (hol : o.length ≤ 1000) (w : World) (hS : Sl w (.slice B o.length co) 1 o.length (intsI o)) :
    Fun Try.prog 138 [.slice B o.length co, .int .i64 (k : Int)] w fun v w' => ∃ D d, v = .slice D o.length d ∧ NewR w w' (own 3 1 (.slice D o.length d) o.length (intsI (swL o k))) := by
  refine fun_of_W (N := 33) Try.func138 ent138 rfl rfl rfl (by simp) ?_
  have H := Hp.start0 w
  refine cut_rule (γ := Unit) _ rfl (fun _ => [(4, .slice none 0 0)]) (fun _ w' => Hp w (fun _ => False) w' [] []) ⟨(), ⟨rfl, trivial⟩, H⟩ ?_
  clear H
  rintro ⟨⟩ u w0 H
  replace H : Hp _ _ _ _ _ := H
  refine cut_rule (γ := Unit) _ rfl (fun _ => [(5, .slice none 0 0)]) (fun _ w' => Hp w (fun _ => False) w' [own 3 1 (.slice none 0 0) 0 []] []) ?_ ?_
  · exact ⟨(), ⟨rfl, trivial⟩, H.ownNil 3 1⟩
  clear H
  rintro ⟨⟩ u w1 H
  replace H : Hp _ _ _ _ _ := H
  refine cut_rule (γ := Value) _ rfl (fun v => [(5, v)]) (fun v w' => Hp w (fun _ => False) w' [own 3 1 v o.length (intsI (swL o k))] []) ?_ ?_
  · refine loop_rule (γ := Nat × Value) _ rfl (fun (i, v) => [(6, .int .i64 (i : Int)), (5, v)]) (fun (i, v) w' => i ≤ o.length ∧ Hp w (fun _ => False) w' [own 3 1 v i (intsI ((swL o k).take i))] []) (fun (i, _) => o.length - i) (0, .slice none 0 0) ⟨rfl, rfl, trivial⟩ ⟨Nat.zero_le _, H⟩ ?_
    clear H
    rintro ⟨i, v⟩ u w2 ⟨hi, H⟩
    replace H : Hp _ _ _ _ _ := H
    obtain ⟨D, d, rfl, _⟩ := own_form (H.get 0 rfl)
    refine len_sl Try.underlying32 ?_
    refine cond_dec (fun h7 => ?_) (fun h7 => ?_)
    · refine cut_rule (γ := Option Addr × Nat) _ rfl (fun (D, d) => [(5, .slice D (i + 1) d)]) (fun (D, d) w' => Hp w (fun _ => False) w' [own 3 1 (.slice D (i + 1) d) (i + 1) (intsI ((swL o k).take (i + 1)))] []) ?_ ?_
      · refine cut_rule (γ := Unit) _ rfl (fun _ => [(7, .int .i64 (i : Int))]) (fun _ w' => Hp w (fun _ => False) w' [own 3 1 (.slice D i d) i (intsI ((swL o k).take i))] []) ⟨(), ⟨rfl, trivial⟩, H⟩ ?_
        clear H
        rintro ⟨⟩ u w3 H
        replace H : Hp _ _ _ _ _ := H
        have hwk : IntKind.i64.wrap ((k : Int) + 1) = ((k + 1 : Nat) : Int) := by simp only [IntKind.wrap_i64]; omega
        refine cut_rule (γ := Unit) _ rfl (fun _ => [(7, .int .i64 ((if i = k then k + 1 else i : Nat) : Int))]) (fun _ w' => Hp w (fun _ => False) w' [own 3 1 (.slice D i d) i (intsI ((swL o k).take i))] []) ?_ ?_
        · refine cond_beq (fun h3 => ?_) (fun h3 => ?_)
          · exact ⟨(), ⟨by rw [if_pos (by omega), ← hwk]; rfl, trivial⟩, H⟩
          · exact ⟨(), ⟨by rw [if_neg (by omega)]; rfl, trivial⟩, H⟩
        clear H
        rintro ⟨⟩ u w4 H
        replace H : Hp _ _ _ _ _ := H
        refine cut_rule (γ := Unit) _ rfl (fun _ => [(7, .int .i64 ((sw k i : Nat) : Int))]) (fun _ w' => Hp w (fun _ => False) w' [own 3 1 (.slice D i d) i (intsI ((swL o k).take i))] []) ?_ ?_
        · refine cond_beq (fun h3 => ?_) (fun h3 => ?_)
          · rw [hwk] at h3
            exact ⟨(), ⟨by rw [show sw k i = k by unfold sw; rw [if_neg (by omega), if_pos (by omega)]]; rfl, trivial⟩, H⟩
          · rw [hwk] at h3
            exact ⟨(), ⟨by rw [show sw k i = (if i = k then k + 1 else i) from swx (by omega)]; rfl, trivial⟩, H⟩
        clear H
        rintro ⟨⟩ u w5 H
        replace H : Hp _ _ _ _ _ := H
        have hsw : sw k i < o.length := sw_lt hk (by omega)
        obtain ⟨x, hx⟩ : ∃ x, o[sw k i]? = some x := ⟨_, List.getElem?_eq_getElem hsw⟩
        have hgx : (intsI o)[sw k i]? = some (.int .i64 x) := by rw [intsI, List.getElem?_map, hx]; rfl
        have hx' : (swL o k)[i]? = some x := by rw [swL_get hk, hx]
        have htk : (swL o k).take (i + 1) = (swL o k).take i ++ [x] := by rw [List.take_add_one, hx']; rfl
        obtain ⟨g2, o2, rfl⟩ := hS.A (by omega)
        refine idxAddr_sl Try.underlying32 (s := 1) size3 (sw k i) rfl hsw (o' := o2 + sw k i) (by omega) ?_
        refine H.loadSl (i := sw k i) hS agg3 _ rfl hgx ?_
        refine H.buildOne T32 rfl ?_
        clear H
        intro g11 w11 H
        refine H.appendOne 0 T32 rfl rfl (by omega) (by omega) ?_
        clear H
        intro B2 d2 w12 H
        have e2 : intsI ((swL o k).take (i + 1)) = intsI ((swL o k).take i) ++ [.int .i64 x] := by rw [htk]; simp [intsI]
        exact ⟨(B2, d2), ⟨rfl, trivial⟩, by rw [e2]; exact H⟩
      · clear H
        rintro ⟨D, d⟩ u w5 H
        exact ⟨(i + 1, .slice D (i + 1) d), by show o.length - (i + 1) < o.length - i; omega, ⟨up (by omega), rfl, trivial⟩, by show i + 1 ≤ o.length; omega, H⟩
    · have : i = o.length := by omega
      subst this
      rw [List.take_of_length_le (by rw [swL_length]; exact Nat.le_refl _)] at H
      exact ⟨_, ⟨rfl, trivial⟩, H⟩
  clear H
  rintro v u w2 H
  replace H : Hp _ _ _ _ _ := H
  obtain ⟨D, d, rfl, _⟩ := own_form (H.get 0 rfl)
  exact ⟨D, d, rfl, H.out⟩
end Go.Proofs.Ytjebpngdinbckaa
end

section
/- Graphs: c133 (the document's Right). -/
namespace Go.Proofs.Ytjebpngdinbckaa
open Go.Dk
attribute [local irreducible] IntKind.wrap

/-- What a graph that is right says is the set that the document reads. -/
theorem says_eq {o : List Int} {N : List I3} {r : Int} {P : List Nd} (h : RightG o N r P) : saysN (natsI o) P r.toNat = setD (natsI o) (arN P) r := by
  have hlen := natsI_length o
  have h0 := h.root0
  have h1 := h.root1
  unfold saysN setD
  congr 1
  funext p
  rw [evalP_sem hlen h.inv h.topo p _ _ (by omega) (by omega), show ((r.toNat : Nat) : Int) = r by omega]
/-- A graph that is right is the graph of the set that it says. -/
theorem right_graph {o : List Int} {N : List I3} {r : Int} {P : List Nd} (h : RightG o N r P) : IsGraph (FnS (natsI o) (setD (natsI o) (arN P) r)) P r := by
  have hn : o.length ≤ 23 := by have := h.ord.le; omega
  have hr := read_graph hn h.inv (there_of (root := r) h.root0 h.root1)
  have e : sem (arN P) r = FnS (natsI o) (setD (natsI o) (arN P) r) := by
    funext a
    have ho := h.ord.nats
    have hlt := ptA_lt (natsI o) a
    have h8 : (natsI o).length ≤ 8 := ho.le
    have h256 := Nat.pow_le_pow_right (show 0 < 2 by decide) h8
    unfold FnS setD
    rw [testBit_setOf, decide_eq_true hlt, decide_eq_true (show ptA (natsI o) a < 256 by omega), Bool.true_and, Bool.true_and]
    refine (sem_low h.inv r _ _ fun j hj => ?_).symm
    exact asg_pt ho a (by rw [natsI_length]; exact hj)
  rw [← e]
  have h1 := h.read.1
  have h2 := h.read.2
  unfold rd0 at h1 h2
  rw [h1, h2] at hr
  exact hr
end Go.Proofs.Ytjebpngdinbckaa
end

section
/- Graphs: c133 (the document's Right), the walk. -/
namespace Go.Proofs.Ytjebpngdinbckaa
open Go.Dk
attribute [local irreducible] IntKind.wrap

/-- A node that names lesser ones alone, at a level that is there. -/
def OkE (n j : Nat) (e : I3) : Prop := 0 ≤ e.1 ∧ e.1 < n ∧ 0 ≤ e.2.1 ∧ e.2.1 ≤ j + 1 ∧ 0 ≤ e.2.2 ∧ e.2.2 ≤ j + 1
theorem nodes_of {n : Nat} {N : List I3} (h : ∀ j e, N[j]? = some e → OkE n j e) : ∃ P, ndI P = N ∧ Topo P ∧ ∀ (i : Nat) (d : Nd), P[i]? = some d → d.l < n := by
  refine ⟨N.map fun e => ⟨e.1.toNat, e.2.1.toNat, e.2.2.toNat⟩, ?_, ?_, ?_⟩
  · refine List.ext_getElem? fun j => ?_
    rw [List.getElem?_map, List.getElem?_map]
    cases he : N[j]? with
    | none => rfl
    | some e =>
      obtain ⟨a, b, c⟩ := e
      obtain ⟨h1, _, h2, _, h3, _⟩ := h j _ he
      show some (((a.toNat : Nat) : Int), ((b.toNat : Nat) : Int), ((c.toNat : Nat) : Int)) = _
      rw [show ((a.toNat : Nat) : Int) = a from Int.toNat_of_nonneg h1, show ((b.toNat : Nat) : Int) = b from Int.toNat_of_nonneg h2, show ((c.toNat : Nat) : Int) = c from Int.toNat_of_nonneg h3]
  · intro i d hd
    rw [List.getElem?_map] at hd
    cases he : N[i]? with
    | none => rw [he] at hd; cases hd
    | some e =>
      rw [he] at hd
      injection hd with hd
      subst hd
      obtain ⟨_, _, h2, h2', h3, h3'⟩ := h i _ he
      show e.2.1.toNat < i + 2 ∧ e.2.2.toNat < i + 2
      omega
  · intro i d hd
    rw [List.getElem?_map] at hd
    cases he : N[i]? with
    | none => rw [he] at hd; cases hd
    | some e =>
      rw [he] at hd
      injection hd with hd
      subst hd
      obtain ⟨h1, h1', _⟩ := h i _ he
      show e.1.toNat < n
      omega
theorem right_okE {o : List Int} {N : List I3} {r : Int} {P : List Nd} (h : RightG o N r P) : ∀ j e, N[j]? = some e → OkE o.length j e := by
  intro j e he
  rw [← h.nds, List.getElem?_map] at he
  cases hd : P[j]? with
  | none => rw [hd] at he; cases he
  | some d =>
    rw [hd] at he
    injection he with he
    subst he
    have h1 := h.topo j d hd
    have h2 := h.inv.lt j d (by rw [slot_arN]; exact hd)
    show 0 ≤ (d.l : Int) ∧ (d.l : Int) < o.length ∧ 0 ≤ (d.lo : Int) ∧ (d.lo : Int) ≤ j + 1 ∧ 0 ≤ (d.hi : Int) ∧ (d.hi : Int) ≤ j + 1
    omega
theorem ent133 : enters Try.prog 133 = true := by kernel_rfl
set_option maxHeartbeats 4000000 in
theorem c133 (o : List Int) (N : List I3) (Bo A : Option Addr) (co c : Nat) (r : Int) (ho : o.length ≤ 1000) (hl : N.length ≤ 1000) (w : World) (hS : Sl w (.slice Bo o.length co) 1 o.length (intsI o)) (hA : Sl w (.slice A N.length c) 3 N.length (flat encI N)) :
    Fun Try.prog 133 [grV (.slice Bo o.length co) (.slice A N.length c) r] w fun v w' => ∃ b, v = .bool b ∧ (b = true ↔ ∃ P, RightG o N r P) ∧ Same w w' := by
  refine fun_of_W (N := 77) Try.func133 ent133 rfl rfl rfl (by simp) ?_
  have H := Hp.start0 w
  refine cut_rule (γ := Nat) _ rfl (fun g1 => [(1, .pointer (some ⟨g1, 0, none⟩)), (2, .bool false)]) (fun g1 w' => Hp w (fun _ => False) w' [blk g1 155 (grC (.slice Bo o.length co) (.slice A N.length c) r)] []) ?_ ?_
  · refine H.box 155 _ (cs := grC (.slice Bo o.length co) (.slice A N.length c) r) rfl ?_
    clear H
    intro g1 w1 H
    exact ⟨g1, ⟨rfl, rfl, trivial⟩, H⟩
  clear H
  rintro g1 u w1 H
  replace H : Hp _ _ _ _ _ := H
  refine cut_rule (γ := Unit) _ rfl (fun _ => []) (fun _ w' => (OrdI o ∧ 0 ≤ r ∧ r < (N.length : Int) + 2) ∧ Hp w (fun _ => False) w' [blk g1 155 (grC (.slice Bo o.length co) (.slice A N.length c) r)] []) ?_ ?_
  · refine fieldAddr_by (fa155_0 _) ?_
    refine H.load 0 rfl agg32 rfl ?_
    refine call_fn (c101 o Bo co _ (by omega) (hS.same H.keeps)) ?_
    rintro _ w2 ⟨rfl, hk⟩
    replace H := H.same hk
    clear hk
    have hw1 : IntKind.i64.wrap ((N.length : Int) + 1) = (N.length : Int) + 1 := by rw [wrap_i64_in (by omega) (by omega)]
    cases hb : orderB o with
    | false =>
      have hno : ¬ OrdI o := fun h => by rw [(ordB_iff o).2 h] at hb; cases hb
      iterate 13 refine cond_yes rfl ?_
      exact ⟨false, rfl, ⟨fun h => Bool.noConfusion h, fun ⟨P, h⟩ => absurd h.ord hno⟩, H.keeps⟩
    | true =>
      have hord := (ordB_iff o).1 hb
      by_cases h0 : r < 0
      · refine cond_no rfl ?_
        refine fieldAddr_by (fa155_2 _) ?_
        refine cond_no rfl ?_
        refine H.load 0 rfl agg3 rfl ?_
        iterate 2 refine cond_no rfl ?_
        iterate 8 refine cond_yes (decide_eq_true (by assumption)) ?_
        refine cond_yes rfl ?_
        exact ⟨false, rfl, ⟨fun h => Bool.noConfusion h, fun ⟨P, h⟩ => absurd h.root0 (by omega)⟩, H.keeps⟩
      · by_cases h1 : (N.length : Int) + 1 < r
        · refine cond_no rfl ?_
          refine fieldAddr_by (fa155_2 _) ?_
          refine cond_no rfl ?_
          refine H.load 0 rfl agg3 rfl ?_
          iterate 2 refine cond_no rfl ?_
          refine cond_no (decide_eq_false (by assumption)) ?_
          refine fieldAddr_by (fa155_2 _) ?_
          refine cond_no (decide_eq_false (by assumption)) ?_
          refine H.load 0 rfl agg3 rfl ?_
          refine cond_no (decide_eq_false (by assumption)) ?_
          refine fieldAddr_by (fa155_1 _) ?_
          refine cond_no (decide_eq_false (by assumption)) ?_
          refine H.load 0 rfl agg153 rfl ?_
          refine cond_no (decide_eq_false (by assumption)) ?_
          refine len_sl Try.underlying153 ?_
          iterate 3 refine cond_no (decide_eq_false (by assumption)) ?_
          refine cond_yes (decide_eq_true (by omega)) ?_
          exact ⟨false, rfl, ⟨fun h => Bool.noConfusion h, fun ⟨P, h⟩ => by have h2 := h.root1; have e := congrArg List.length h.nds; rw [List.length_map] at e; omega⟩, H.keeps⟩
        · refine cond_no rfl ?_
          refine fieldAddr_by (fa155_2 _) ?_
          refine cond_no rfl ?_
          refine H.load 0 rfl agg3 rfl ?_
          iterate 2 refine cond_no rfl ?_
          refine cond_no (decide_eq_false (by assumption)) ?_
          refine fieldAddr_by (fa155_2 _) ?_
          refine cond_no (decide_eq_false (by assumption)) ?_
          refine H.load 0 rfl agg3 rfl ?_
          refine cond_no (decide_eq_false (by assumption)) ?_
          refine fieldAddr_by (fa155_1 _) ?_
          refine cond_no (decide_eq_false (by assumption)) ?_
          refine H.load 0 rfl agg153 rfl ?_
          refine cond_no (decide_eq_false (by assumption)) ?_
          refine len_sl Try.underlying153 ?_
          iterate 3 refine cond_no (decide_eq_false (by assumption)) ?_
          refine cond_no (decide_eq_false (by omega)) ?_
          exact ⟨(), trivial, ⟨hord, by omega, by omega⟩, H⟩
  clear H
  rintro ⟨⟩ u w2 ⟨⟨hord, hr0, hr1⟩, H⟩
  replace H : Hp _ _ _ _ _ := H
  refine cut_rule (γ := Unit) _ rfl (fun _ => []) (fun _ w' => (∀ j e, N[j]? = some e → OkE o.length j e) ∧ Hp w (fun _ => False) w' [blk g1 155 (grC (.slice Bo o.length co) (.slice A N.length c) r)] []) ?_ ?_
  · refine loop_rule (γ := Nat) _ rfl (fun i => [(3, .int .i64 (i : Int))]) (fun i w' => (i ≤ N.length ∧ ∀ j e, j < i → N[j]? = some e → OkE o.length j e) ∧ Hp w (fun _ => False) w' [blk g1 155 (grC (.slice Bo o.length co) (.slice A N.length c) r)] []) (fun i => N.length - i) 0 ⟨rfl, trivial⟩ ⟨⟨Nat.zero_le _, fun j e h => by omega⟩, H⟩ ?_
    clear H
    rintro i u w3 ⟨⟨hi, hE⟩, H⟩
    replace H : Hp _ _ _ _ _ := H
    refine fieldAddr_by (fa155_1 _) ?_
    refine H.load 0 rfl agg153 rfl ?_
    refine len_sl Try.underlying153 ?_
    refine cond_dec (fun h7 => ?_) (fun h7 => ?_)
    · obtain ⟨e, he⟩ : ∃ e, N[i]? = some e := ⟨_, List.getElem?_eq_getElem (by omega)⟩
      have hiN : i < N.length := by omega
      obtain ⟨gA, oA, rfl⟩ := hA.A (by omega)
      refine cut_rule (γ := Unit) _ rfl (fun _ => []) (fun _ w' => OkE o.length i e ∧ Hp w (fun _ => False) w' [blk g1 155 (grC (.slice Bo o.length co) (.slice (some ⟨gA, oA, none⟩) N.length c) r)] []) ?_ ?_
      · refine cut_rule (γ := Nat) _ rfl (fun g7 => [(4, .pointer (some ⟨g7, 0, none⟩))]) (fun g7 w' => Hp w (fun _ => False) w' [blk g7 232 (k3c e.1 e.2.1 e.2.2), blk g1 155 (grC (.slice Bo o.length co) (.slice (some ⟨gA, oA, none⟩) N.length c) r)] []) ?_ ?_
        · refine fieldAddr_by (fa155_1 _) ?_
          refine H.load 0 rfl agg153 rfl ?_
          refine idxAddr_sl Try.underlying153 size232 i rfl hiN (o' := oA + i * 3) (by omega) ?_
          refine Sl.loadAgg H hA encI_length agg232 size232 i rfl he ?_
          refine H.alloc 232 zero232 rfl ?_
          clear H
          intro g7 w3 H
          refine H.storeAll 0 rfl size232 rfl (fun v hv => encI_one e v hv) ?_
          clear H
          intro w4 H
          exact ⟨g7, ⟨rfl, trivial⟩, H⟩
        clear H
        rintro g7 u w4 H
        replace H : Hp _ _ _ _ _ := H
        have hw1 : IntKind.i64.wrap ((i : Int) + 1) = (i : Int) + 1 := by rw [wrap_i64_in (by omega) (by omega)]
        have hno : ¬ OkE o.length i e → ¬ ∃ P, RightG o N r P := fun h ⟨P, hP⟩ => h (right_okE hP i e he)
        obtain ⟨a, b, d⟩ := e
        by_cases p1 : a < 0
        · refine fieldAddr_by (fa232_0 _ _) ?_
          refine H.load 0 rfl agg3 rfl ?_
          iterate 7 refine cond_yes (decide_eq_true (by assumption)) ?_
          iterate 21 refine cond_yes rfl ?_
          exact ⟨false, rfl, ⟨fun h => Bool.noConfusion h, fun hp => absurd hp (hno fun h => by obtain ⟨q1, q2, q3, q4, q5, q6⟩ := h; dsimp only at q1 q2 q3 q4 q5 q6; omega)⟩, H.keeps⟩
        by_cases p2 : (o.length : Int) ≤ a
        · refine fieldAddr_by (fa232_0 _ _) ?_
          refine H.load 0 rfl agg3 rfl ?_
          refine cond_no (decide_eq_false (by assumption)) ?_
          refine fieldAddr_by (fa232_0 _ _) ?_
          refine cond_no (decide_eq_false (by assumption)) ?_
          refine H.load 0 rfl agg3 rfl ?_
          refine cond_no (decide_eq_false (by assumption)) ?_
          refine fieldAddr_by (fa155_0 _) ?_
          refine cond_no (decide_eq_false (by assumption)) ?_
          refine H.load 1 rfl agg32 rfl ?_
          refine cond_no (decide_eq_false (by assumption)) ?_
          refine len_sl Try.underlying32 ?_
          iterate 2 refine cond_no (decide_eq_false (by assumption)) ?_
          iterate 4 refine cond_yes (decide_eq_true (by assumption)) ?_
          iterate 17 refine cond_yes rfl ?_
          exact ⟨false, rfl, ⟨fun h => Bool.noConfusion h, fun hp => absurd hp (hno fun h => by obtain ⟨q1, q2, q3, q4, q5, q6⟩ := h; dsimp only at q1 q2 q3 q4 q5 q6; omega)⟩, H.keeps⟩
        by_cases p3 : b < 0
        · refine fieldAddr_by (fa232_0 _ _) ?_
          refine H.load 0 rfl agg3 rfl ?_
          refine cond_no (decide_eq_false (by assumption)) ?_
          refine fieldAddr_by (fa232_0 _ _) ?_
          refine cond_no (decide_eq_false (by assumption)) ?_
          refine H.load 0 rfl agg3 rfl ?_
          refine cond_no (decide_eq_false (by assumption)) ?_
          refine fieldAddr_by (fa155_0 _) ?_
          refine cond_no (decide_eq_false (by assumption)) ?_
          refine H.load 1 rfl agg32 rfl ?_
          refine cond_no (decide_eq_false (by assumption)) ?_
          refine len_sl Try.underlying32 ?_
          iterate 3 refine cond_no (decide_eq_false (by assumption)) ?_
          refine fieldAddr_by (fa232_1 _ _) ?_
          refine cond_no (decide_eq_false (by assumption)) ?_
          refine H.load 0 rfl agg3 rfl ?_
          iterate 2 refine cond_no (decide_eq_false (by assumption)) ?_
          iterate 6 refine cond_yes (decide_eq_true (by assumption)) ?_
          iterate 11 refine cond_yes rfl ?_
          exact ⟨false, rfl, ⟨fun h => Bool.noConfusion h, fun hp => absurd hp (hno fun h => by obtain ⟨q1, q2, q3, q4, q5, q6⟩ := h; dsimp only at q1 q2 q3 q4 q5 q6; omega)⟩, H.keeps⟩
        by_cases p4 : (i : Int) + 1 < b
        · refine fieldAddr_by (fa232_0 _ _) ?_
          refine H.load 0 rfl agg3 rfl ?_
          refine cond_no (decide_eq_false (by assumption)) ?_
          refine fieldAddr_by (fa232_0 _ _) ?_
          refine cond_no (decide_eq_false (by assumption)) ?_
          refine H.load 0 rfl agg3 rfl ?_
          refine cond_no (decide_eq_false (by assumption)) ?_
          refine fieldAddr_by (fa155_0 _) ?_
          refine cond_no (decide_eq_false (by assumption)) ?_
          refine H.load 1 rfl agg32 rfl ?_
          refine cond_no (decide_eq_false (by assumption)) ?_
          refine len_sl Try.underlying32 ?_
          iterate 3 refine cond_no (decide_eq_false (by assumption)) ?_
          refine fieldAddr_by (fa232_1 _ _) ?_
          refine cond_no (decide_eq_false (by assumption)) ?_
          refine H.load 0 rfl agg3 rfl ?_
          iterate 3 refine cond_no (decide_eq_false (by assumption)) ?_
          refine fieldAddr_by (fa232_1 _ _) ?_
          refine cond_no (decide_eq_false (by assumption)) ?_
          refine H.load 0 rfl agg3 rfl ?_
          iterate 4 refine cond_no (decide_eq_false (by assumption)) ?_
          iterate 4 refine cond_yes (decide_eq_true (by simp only [IntKind.wrap_i64]; omega)) ?_
          iterate 7 refine cond_yes rfl ?_
          exact ⟨false, rfl, ⟨fun h => Bool.noConfusion h, fun hp => absurd hp (hno fun h => by obtain ⟨q1, q2, q3, q4, q5, q6⟩ := h; dsimp only at q1 q2 q3 q4 q5 q6; omega)⟩, H.keeps⟩
        by_cases p5 : d < 0
        · refine fieldAddr_by (fa232_0 _ _) ?_
          refine H.load 0 rfl agg3 rfl ?_
          refine cond_no (decide_eq_false (by assumption)) ?_
          refine fieldAddr_by (fa232_0 _ _) ?_
          refine cond_no (decide_eq_false (by assumption)) ?_
          refine H.load 0 rfl agg3 rfl ?_
          refine cond_no (decide_eq_false (by assumption)) ?_
          refine fieldAddr_by (fa155_0 _) ?_
          refine cond_no (decide_eq_false (by assumption)) ?_
          refine H.load 1 rfl agg32 rfl ?_
          refine cond_no (decide_eq_false (by assumption)) ?_
          refine len_sl Try.underlying32 ?_
          iterate 3 refine cond_no (decide_eq_false (by assumption)) ?_
          refine fieldAddr_by (fa232_1 _ _) ?_
          refine cond_no (decide_eq_false (by assumption)) ?_
          refine H.load 0 rfl agg3 rfl ?_
          iterate 3 refine cond_no (decide_eq_false (by assumption)) ?_
          refine fieldAddr_by (fa232_1 _ _) ?_
          refine cond_no (decide_eq_false (by assumption)) ?_
          refine H.load 0 rfl agg3 rfl ?_
          iterate 4 refine cond_no (decide_eq_false (by assumption)) ?_
          refine cond_no (decide_eq_false (by simp only [IntKind.wrap_i64]; omega)) ?_
          refine fieldAddr_by (fa232_2 _ _) ?_
          refine cond_no (decide_eq_false (by simp only [IntKind.wrap_i64]; omega)) ?_
          refine H.load 0 rfl agg3 rfl ?_
          iterate 2 refine cond_no (decide_eq_false (by simp only [IntKind.wrap_i64]; omega)) ?_
          iterate 6 refine cond_yes (decide_eq_true (by assumption)) ?_
          refine cond_yes rfl ?_
          exact ⟨false, rfl, ⟨fun h => Bool.noConfusion h, fun hp => absurd hp (hno fun h => by obtain ⟨q1, q2, q3, q4, q5, q6⟩ := h; dsimp only at q1 q2 q3 q4 q5 q6; omega)⟩, H.keeps⟩
        by_cases p6 : (i : Int) + 1 < d
        · refine fieldAddr_by (fa232_0 _ _) ?_
          refine H.load 0 rfl agg3 rfl ?_
          refine cond_no (decide_eq_false (by assumption)) ?_
          refine fieldAddr_by (fa232_0 _ _) ?_
          refine cond_no (decide_eq_false (by assumption)) ?_
          refine H.load 0 rfl agg3 rfl ?_
          refine cond_no (decide_eq_false (by assumption)) ?_
          refine fieldAddr_by (fa155_0 _) ?_
          refine cond_no (decide_eq_false (by assumption)) ?_
          refine H.load 1 rfl agg32 rfl ?_
          refine cond_no (decide_eq_false (by assumption)) ?_
          refine len_sl Try.underlying32 ?_
          iterate 3 refine cond_no (decide_eq_false (by assumption)) ?_
          refine fieldAddr_by (fa232_1 _ _) ?_
          refine cond_no (decide_eq_false (by assumption)) ?_
          refine H.load 0 rfl agg3 rfl ?_
          iterate 3 refine cond_no (decide_eq_false (by assumption)) ?_
          refine fieldAddr_by (fa232_1 _ _) ?_
          refine cond_no (decide_eq_false (by assumption)) ?_
          refine H.load 0 rfl agg3 rfl ?_
          iterate 4 refine cond_no (decide_eq_false (by assumption)) ?_
          refine cond_no (decide_eq_false (by simp only [IntKind.wrap_i64]; omega)) ?_
          refine fieldAddr_by (fa232_2 _ _) ?_
          refine cond_no (decide_eq_false (by simp only [IntKind.wrap_i64]; omega)) ?_
          refine H.load 0 rfl agg3 rfl ?_
          iterate 2 refine cond_no (decide_eq_false (by simp only [IntKind.wrap_i64]; omega)) ?_
          refine cond_no (decide_eq_false (by assumption)) ?_
          refine fieldAddr_by (fa232_2 _ _) ?_
          refine cond_no (decide_eq_false (by assumption)) ?_
          refine H.load 0 rfl agg3 rfl ?_
          iterate 4 refine cond_no (decide_eq_false (by assumption)) ?_
          refine cond_yes (decide_eq_true (by simp only [IntKind.wrap_i64]; omega)) ?_
          exact ⟨false, rfl, ⟨fun h => Bool.noConfusion h, fun hp => absurd hp (hno fun h => by obtain ⟨q1, q2, q3, q4, q5, q6⟩ := h; dsimp only at q1 q2 q3 q4 q5 q6; omega)⟩, H.keeps⟩
        refine fieldAddr_by (fa232_0 _ _) ?_
        refine H.load 0 rfl agg3 rfl ?_
        refine cond_no (decide_eq_false (by assumption)) ?_
        refine fieldAddr_by (fa232_0 _ _) ?_
        refine cond_no (decide_eq_false (by assumption)) ?_
        refine H.load 0 rfl agg3 rfl ?_
        refine cond_no (decide_eq_false (by assumption)) ?_
        refine fieldAddr_by (fa155_0 _) ?_
        refine cond_no (decide_eq_false (by assumption)) ?_
        refine H.load 1 rfl agg32 rfl ?_
        refine cond_no (decide_eq_false (by assumption)) ?_
        refine len_sl Try.underlying32 ?_
        iterate 3 refine cond_no (decide_eq_false (by assumption)) ?_
        refine fieldAddr_by (fa232_1 _ _) ?_
        refine cond_no (decide_eq_false (by assumption)) ?_
        refine H.load 0 rfl agg3 rfl ?_
        iterate 3 refine cond_no (decide_eq_false (by assumption)) ?_
        refine fieldAddr_by (fa232_1 _ _) ?_
        refine cond_no (decide_eq_false (by assumption)) ?_
        refine H.load 0 rfl agg3 rfl ?_
        iterate 4 refine cond_no (decide_eq_false (by assumption)) ?_
        refine cond_no (decide_eq_false (by simp only [IntKind.wrap_i64]; omega)) ?_
        refine fieldAddr_by (fa232_2 _ _) ?_
        refine cond_no (decide_eq_false (by simp only [IntKind.wrap_i64]; omega)) ?_
        refine H.load 0 rfl agg3 rfl ?_
        iterate 2 refine cond_no (decide_eq_false (by simp only [IntKind.wrap_i64]; omega)) ?_
        refine cond_no (decide_eq_false (by assumption)) ?_
        refine fieldAddr_by (fa232_2 _ _) ?_
        refine cond_no (decide_eq_false (by assumption)) ?_
        refine H.load 0 rfl agg3 rfl ?_
        iterate 4 refine cond_no (decide_eq_false (by assumption)) ?_
        refine cond_no (decide_eq_false (by simp only [IntKind.wrap_i64]; omega)) ?_
        exact ⟨(), trivial, ⟨by dsimp only; omega, by dsimp only; omega, by dsimp only; omega, by dsimp only; omega, by dsimp only; omega, by dsimp only; omega⟩, H.forget⟩
      · clear H
        rintro ⟨⟩ u w5 ⟨hok, H⟩
        exact ⟨i + 1, by show N.length - (i + 1) < N.length - i; omega, ⟨up (by omega), trivial⟩, ⟨by show i + 1 ≤ N.length; omega, fun j e' hj he' => by
          by_cases hji : j = i
          · subst hji; rw [he] at he'; injection he' with he'; subst he'; exact hok
          · exact hE j e' (by omega) he'⟩, H⟩
    · exact ⟨(), trivial, fun j e he => hE j e (by have := (List.getElem?_eq_some_iff.1 he).1; omega) he, H⟩
  clear H
  rintro ⟨⟩ u w3 ⟨hE, H⟩
  replace H : Hp _ _ _ _ _ := H
  obtain ⟨P, hnds, ht, hlv⟩ := nodes_of hE
  refine H.draw fol (by kernel_rfl) ?_
  clear H
  intro w4 H
  refine quiet _ (fun w H => H.loadAll 0 rfl agg155 size155 ⟨rfl, rfl⟩) ?_
  have hPl : P.length = N.length := by have := congrArg List.length hnds; rwa [List.length_map] at this
  have hc := c137 hord hnds ht hlv (by omega) Bo A co c r.toNat (by omega) w4 (hS.same H.keeps) (hA.same H.keeps)
  rw [show ((r.toNat : Nat) : Int) = r by omega] at hc
  refine call_fn hc ?_
  clear hc
  rintro _ w5 ⟨rfl, hk⟩
  replace H := H.same hk
  clear hk
  refine ⟨.inl H, ?_⟩
  refine quiet _ (fun w H => fieldAddr_by (fa155_0 _) ⟨rfl, rfl⟩) ?_
  refine quiet _ (fun w H => H.load 0 rfl agg32 rfl ⟨rfl, rfl⟩) ?_
  refine call_fn (c136 hord (saysN (natsI o) P r.toNat) (setOf_lt _) Bo co w5 (hS.same H.keeps)) ?_
  rintro _ w6 ⟨D, d, N', r', rfl, hgr, hn⟩
  replace H := H.addNew hn
  clear hn
  have hF := FnS_low' hord (saysN (natsI o) P r.toNat)
  have ho8 := hord.le
  have hNl : N'.length ≤ 1000 := by
    have hm := graph_made (by omega) hF hgr
    have hf := made_few hm (low_hangs hF)
    rw [arN_live, List.length_range] at hf
    have h256 := pow_le_256 ho8
    have : liveA ([] : Ar) = 0 := rfl
    omega
  have hN3 : (ndI N').length = N'.length := List.length_map ..
  refine ⟨.inl H.forget, ?_⟩
  refine quiet _ (fun w H => H.loadAll 0 rfl agg155 size155 ⟨rfl, rfl⟩) ?_
  have hc := c135 o o Bo Bo co co (ndI N') N D A d c r' r w6 (by omega) (by rw [hN3]; omega) (by omega) (by omega) (hS.same H.keeps) (hS.same H.keeps) (by rw [hN3]; exact own_Sl (H.get 0 rfl)) (hA.same H.keeps)
  rw [hN3] at hc
  refine call_fn hc ?_
  clear hc
  rintro _ w7 ⟨rfl, hk⟩
  replace H := H.same hk
  clear hk
  have hiff : (o = o ∧ ndI N' = N ∧ r' = r) ↔ ∃ P, RightG o N r P := by
    constructor
    · rintro ⟨_, rfl, rfl⟩
      exact ⟨N', graph_right hord hF hgr⟩
    · rintro ⟨P2, h2⟩
      obtain rfl : P2 = P := ndI_inj (h2.nds.trans hnds.symm)
      have h3 := right_graph h2
      rw [← says_eq h2] at h3
      obtain ⟨rfl, rfl⟩ := graph_det (by omega) hF h3 hgr
      exact ⟨rfl, h2.nds, rfl⟩
  refine ⟨.inl H.forget, ?_⟩
  exact ⟨_, rfl, decide_eq_true_iff.trans hiff, H.keeps⟩
end Go.Proofs.Ytjebpngdinbckaa
end

import Derived.Test.YtjebpngdinbckaaV10
/- The reference's arenas: Make. -/
namespace Go.Proofs.Ytjebpngdinbckaa
open Go.Dk
attribute [local irreducible] IntKind.wrap

section
variable {P : Program} {w0 w w' : World} {F : Nat → Prop} {L M : List Res} {k kk : Value → World → Prop}
/-- An empty literal slice. -/
theorem Hp.buildNil (H : Hp w0 F w L M) {t e : TypeId} {z : Value} {sz b : Nat} (T : SlT P t e z sz b)
    (h : ∀ g w', Hp w0 F w' (own e sz (.slice (some ⟨g, 0, none⟩) 0 0) 0 [] :: L) M → k (.slice (some ⟨g, 0, none⟩) 0 0) w') : buildSliceK P t 0 [] w k := by
  unfold buildSliceK
  refine ⟨_, w.alloc (.cells #[] e), ?_, h w.heap.size _ (H.add (Keeps.alloc _ _) _ ?_ ?_)⟩
  · simp only [Instr.buildSlice, Sem.run_bind, run_underlying T.und, Result.andThen_ok, Go.Dk.run_sizeOf T.size]
    simp [Instr.fill, newRow]
    exact congrArg (fun x => w.alloc (.cells x e)) (Array.eq_empty_of_size_eq_zero (by simp))
  · exact ⟨by simp, .inr ⟨w.heap.size, 0, #[], rfl, Nat.zero_le _, heap_alloc_new w _, Nat.le_refl _, by unfold maxLen; omega, by simp, by simp⟩⟩
  · rintro g hg
    have : w.heap.size = g := by injection hg
    subst this
    exact ⟨Nat.le_refl _, by simp⟩
/-- append of a slice that is only read onto an empty one of one's own: a copy. -/
theorem Hp.appendCopy (H : Hp w0 F w L M) (n : Nat) {t e ty : TypeId} {z : Value} {sz b g c d : Nat} {A : Option Addr} {xs : List Value} {cst : Array Bool} (T : SlT P t e z sz b)
    (hn : L[n]? = some (own e sz (.slice (some ⟨g, 0, none⟩) 0 0) 0 [])) (hs : Sl w (.slice A c d) sz c xs) (h1 : ∀ u ∈ xs, u.oneCell' = true) (hl : c * b ≤ 140737488355328) (hl' : c < 1152921504606846976)
    (h : ∀ A d w', Hp w0 F w' (L.set n (own e sz (.slice A c d) c xs)) M → kk (.slice A c d) w') :
    builtinK P .append #[t, t] ty cst [.slice (some ⟨g, 0, none⟩) 0 0, .slice A c d] w kk := by
  obtain ⟨i, hi, hz, hs', hb⟩ := T.parts
  have hown : w.ownsRow 0 e sz (.slice (some ⟨g, 0, none⟩) 0 0) 0 [] := H.get n hn
  have hxl := hs.1
  rcases A with _ | a
  · have hc : c = 0 := by
      rcases Nat.eq_zero_or_pos c with h0 | h0
      · exact h0
      · obtain ⟨_, _, hA⟩ := hs.A h0; cases hA
    subst hc
    have hx : xs = [] := List.eq_nil_of_length_eq_zero (by simpa using hxl)
    subst hx
    have hL : L.set n (own e sz (.slice (some ⟨g, 0, none⟩) 0 0) 0 []) = L := by
      obtain ⟨h1, h2⟩ := List.getElem?_eq_some_iff.1 hn
      rw [← h2]; exact List.set_getElem_self h1
    unfold builtinK
    refine ⟨_, w, ?_, h (some ⟨g, 0, none⟩) 0 w (by rw [hL]; exact H)⟩
    show (do pure (.value (← Builtin.append_ #[t, t] ty #[.slice (some ⟨g, 0, none⟩) 0 0, .slice none 0 d])) : Sem Next).run P w = _
    simp [Builtin.append_, run_underlying T.und, sizeOf, typeInfo, hi, Builtin.lenOf, Builtin.firstCells, storeCells]
  · obtain ⟨v', w', hrun, hown', hg, _, hloc⟩ := run_append_own_at (P := P) w 0 t ty e i z sz b T.und hi hz hs' hb T.zs T.pos (.slice (some ⟨g, 0, none⟩) 0 0) 0 [] hown a c d xs hxl
      (fun j u hu => by
        have hjl := (List.getElem?_eq_some_iff.1 hu).1
        have hc : 0 < c := by
          rcases Nat.eq_zero_or_pos c with h0 | h0
          · subst h0; simp at hxl; subst hxl; simp at hjl
          · exact h0
        obtain ⟨g', o', ha⟩ := hs.A hc
        injection ha with ha
        subst ha
        have hadd : (⟨g', o', none⟩ : Addr).add j = ⟨g', o' + j, none⟩ := by unfold Addr.add; split <;> simp_all
        rw [hadd, hs.cell j (by omega), hu]) h1 (by unfold maxLen; omega) (by rw [Nat.zero_add]; exact hl) (Nat.zero_le _)
    rw [Nat.zero_add, List.nil_append] at hown'
    have hk : Keeps (own e sz (.slice (some ⟨g, 0, none⟩) 0 0) 0 []).foot w w' := ⟨hg.os, hg.tape, hg.output, hg.size, fun x hx hne => hg.block x hx fun e => hne e.symm⟩
    have H' := H.turn n hn (own e sz v' c xs) hk hown' (fun x hx => ⟨(World.ownsRow.lt (w := w') (base := 0) hown' x hx).2, by
      have hx' : v'.ownBlock = some x := hx
      rcases hloc with h | h
      · left; show Value.ownBlock _ = some x; rw [← h]; exact hx'
      · right; rw [h] at hx'; injection hx' with hx'; omega⟩)
    have hv : ∃ A d, v' = .slice A c d := by
      rcases hown'.2 with ⟨rfl, h0⟩ | ⟨g', cap, cur, hv, _⟩
      · exact ⟨none, 0, by rw [h0]⟩
      · exact ⟨_, _, hv⟩
    obtain ⟨A, d', rfl⟩ := hv
    unfold builtinK
    refine ⟨_, w', ?_, h A d' w' H'⟩
    show (do pure (.value (← Builtin.append_ #[t, t] ty #[.slice (some ⟨g, 0, none⟩) 0 0, .slice (some a) c d])) : Sem Next).run P w = _
    rw [Sem.run_bind, hrun]
    rfl
end
theorem flat_one4 (N : List RN) : ∀ v ∈ flat encN N, v.oneCell' = true := by
  intro v hv
  unfold flat at hv
  obtain ⟨x, _, hx⟩ := List.mem_flatMap.1 hv
  exact encN_one x v hx
theorem build64a {a : Int} {w : World} {kk : Value → World → Prop} (h : kk (rv a (.slice none 0 0)) w) : buildK Try.prog 64 [(0, .int .i64 a)] w kk := build_by (fun w => by kernel_rfl) h
theorem build64b {a : Int} {A : Option Addr} {l c : Nat} {w : World} {kk : Value → World → Prop} (h : kk (rv a (.slice A l c)) w) : buildK Try.prog 64 [(0, .int .i64 a), (1, .slice A l c)] w kk := build_by (fun w => by kernel_rfl) h
theorem build78z {w : World} {kk : Value → World → Prop} (h : kk z78 w) : buildK Try.prog 78 [] w kk := build_by (fun w => by kernel_rfl) h
theorem ab_set (N : List RN) (i : Nat) (n : Nd) : ab (N.set i (n, false)) = (ab N).set i (some n) := by unfold ab; rw [List.map_set]; rfl
theorem put_snoc {N : List RN} {n z : Nd} (h : freeA (ab N) = N.length) : ab ((N ++ [(z, false)]).set (freeA (ab N)) (n, false)) = putA (ab N) n := by
  rw [ab_set]
  unfold putA
  rw [if_pos (by rw [ab_length]; exact h), h]
  unfold ab
  rw [List.map_append, List.set_append_right _ _ (by simp)]
  simp
theorem put_set {N : List RN} {n : Nd} (h : freeA (ab N) ≠ N.length) : ab (N.set (freeA (ab N)) (n, false)) = putA (ab N) n := by
  rw [ab_set]
  unfold putA
  rw [if_neg (by rw [ab_length]; exact h)]
theorem size62 : sizeT Try.prog 62 = some 1 := by kernel_rfl
theorem zero64 : zeroT Try.prog 64 = some (rv 0 (.slice none 0 0)) := by kernel_rfl
theorem rc_one {room : Int} {A : Option Addr} {l c : Nat} : ∀ v ∈ (rc room (.slice A l c)).toList, v.oneCell' = true := by
  intro v hv
  simp [rc] at hv
  rcases hv with rfl | rfl <;> rfl
theorem ent69 : enters Try.prog 69 = true := by kernel_rfl
theorem c69_b (room : Int) (N : List RN) (B : Option Addr) (c : Nat) (l lo hi : Int) (hb : l < 0 ∨ 23 < l ∨ lvlA (ab N) lo ≤ l ∨ lvlA (ab N) hi ≤ l) (w : World) (hl : N.length ≤ 1000000) (hs : Sl w (.slice B N.length c) 4 N.length (flat encN N)) :
    Fun Try.prog 69 [rv room (.slice B N.length c), .int .i64 l, .int .i64 lo, .int .i64 hi] w fun v w' => v = .tuple #[rv room (.slice B N.length c), .int .i64 0, .int .i64 1] ∧ Same w w' := by
  refine fun_of_W (N := 114) Try.func69 ent69 rfl rfl rfl (by simp) ?_
  have H := Hp.start0 w
  refine H.box 64 (rv _ _) (cs := rc _ _) rfl ?_
  clear H
  intro g1 w1 H
  refine H.alloc 64 zero64 rfl ?_
  clear H
  intro g2 w2 H
  refine cond_dec (fun h3 => ?_) (fun h3 => ?_)
  · refine cond_yes (decide_eq_true (by assumption)) ?_
    refine cond_yes (decide_eq_true (by assumption)) ?_
    iterate 13 refine cond_yes rfl ?_
    refine H.loadAll 1 rfl agg64 size64 ?_
    refine H.storeAll 0 rfl size64 rfl (fun v hv => rc_one v hv) ?_ 
    clear H 
    intro w20 H
    refine H.loadAll 0 rfl agg64 size64 ?_
    refine ⟨rfl, ?_⟩
    exact ⟨rfl, H.keeps⟩
  · refine cond_no (decide_eq_false (by assumption)) ?_
    refine cond_no (decide_eq_false (by assumption)) ?_
    refine cond_dec (fun h26 => ?_) (fun h26 => ?_)
    · refine cond_yes (decide_eq_true (by assumption)) ?_
      iterate 4 refine cond_yes (decide_eq_true (by assumption)) ?_
      iterate 7 refine cond_yes rfl ?_
      refine H.loadAll 1 rfl agg64 size64 ?_
      refine H.storeAll 0 rfl size64 rfl (fun v hv => rc_one v hv) ?_ 
      clear H 
      intro w40 H
      refine H.loadAll 0 rfl agg64 size64 ?_
      refine ⟨rfl, ?_⟩
      exact ⟨rfl, H.keeps⟩
    · refine H.loadAll 1 rfl agg64 size64 ?_
      iterate 2 refine cond_no (decide_eq_false (by assumption)) ?_
      refine call_fn (c167 room N B c lo _ hl (hs.same H.keeps)) ?_ 
      rintro _ w47 ⟨rfl, hk⟩ 
      replace H := H.same hk 
      clear hk
      iterate 3 refine cond_no (decide_eq_false (by assumption)) ?_
      refine cond_dec (fun h51 => ?_) (fun h51 => ?_)
      · refine cond_yes (decide_eq_true (by assumption)) ?_
        iterate 4 refine cond_yes (decide_eq_true (by assumption)) ?_
        refine cond_yes rfl ?_
        refine H.loadAll 1 rfl agg64 size64 ?_
        refine H.storeAll 0 rfl size64 rfl (fun v hv => rc_one v hv) ?_ 
        clear H 
        intro w59 H
        refine H.loadAll 0 rfl agg64 size64 ?_
        refine ⟨rfl, ?_⟩
        exact ⟨rfl, H.keeps⟩
      · refine H.loadAll 1 rfl agg64 size64 ?_
        iterate 2 refine cond_no (decide_eq_false (by assumption)) ?_
        refine call_fn (c167 room N B c hi _ hl (hs.same H.keeps)) ?_ 
        rintro _ w66 ⟨rfl, hk⟩ 
        replace H := H.same hk 
        clear hk
        iterate 3 refine cond_no (decide_eq_false (by assumption)) ?_
        refine cond_yes (decide_eq_true (by omega)) ?_
        refine H.loadAll 1 rfl agg64 size64 ?_
        refine H.storeAll 0 rfl size64 rfl (fun v hv => rc_one v hv) ?_ 
        clear H 
        intro w72 H
        refine H.loadAll 0 rfl agg64 size64 ?_
        refine ⟨rfl, ?_⟩
        exact ⟨rfl, H.keeps⟩

/-- The lowest free place from k on. -/
def fr (A : Ar) (k : Nat) : Nat := k + (A.drop k).findIdx (·.isNone)
theorem fr_end (A : Ar) : fr A A.length = A.length := by unfold fr; simp
theorem fr_zero (A : Ar) : fr A 0 = freeA A := by unfold fr freeA; simp
theorem fr_step {A : Ar} {i : Nat} (hi : i < A.length) : fr A i = if (slot A i).isNone then i else fr A (i + 1) := by
  unfold fr
  have h : A.drop i = slot A i :: A.drop (i + 1) := by
    rw [List.drop_eq_getElem_cons hi]
    have := slot_get hi
    rw [List.getElem?_eq_getElem hi] at this
    injection this with this
    rw [this]
  rw [h, List.findIdx_cons]
  cases (slot A i).isNone
  · simp; omega
  · simp
theorem fr_le (A : Ar) {k : Nat} (hk : k ≤ A.length) : fr A k ≤ A.length := by
  unfold fr
  have := List.findIdx_le_length (xs := A.drop k) (p := fun x : Option Nd => x.isNone)
  rw [List.length_drop] at this; omega
theorem findA_not {A : Ar} {n : Nd} (h : ∀ j, slot A j ≠ some n) : findA A n = none := findA_none.2 h
/-- What Make answers in room, when the node's halves are right. -/
theorem c69_g (room : Int) (N : List RN) (B : Option Addr) (c : Nat) (n : Nd) (w : World) (hl : N.length ≤ 100000) (hs : Sl w (.slice B N.length c) 4 N.length (flat encN N)) (hu : Uniq (ab N))
    (h23 : (n.l : Int) ≤ 23) (h1 : (n.l : Int) < lvlA (ab N) n.lo) (h2 : (n.l : Int) < lvlA (ab N) n.hi) :
    Fun Try.prog 69 [rv room (.slice B N.length c), .int .i64 n.l, .int .i64 n.lo, .int .i64 n.hi] w fun v w' =>
      (∃ i, findA (ab N) n = some i ∧ v = .tuple #[rv room (.slice B N.length c), .int .i64 ((i + 2 : Nat) : Int), .int .i64 0] ∧ Same w w') ∨
      (findA (ab N) n = none ∧ room ≤ (liveA (ab N) : Int) ∧ v = .tuple #[rv room (.slice B N.length c), .int .i64 0, .int .i64 5] ∧ Same w w') ∨
      (findA (ab N) n = none ∧ (liveA (ab N) : Int) < room ∧ ∃ N' B' c', ab N' = putA (ab N) n ∧ v = .tuple #[rv room (.slice B' N'.length c'), .int .i64 ((freeA (ab N) + 2 : Nat) : Int), .int .i64 0] ∧
        NewR w w' (own 78 4 (.slice B' N'.length c') N'.length (flat encN N'))) := by
  refine fun_of_W (N := 114) Try.func69 ent69 rfl rfl rfl (by simp) ?_
  have H := Hp.start0 w
  refine H.box 64 (rv _ _) (cs := rc _ _) rfl ?_
  clear H
  intro g1 w1 H
  refine H.alloc 64 zero64 rfl ?_
  clear H
  intro g2 w2 H
  refine cut_rule (γ := Unit) _ rfl (fun _ => []) (fun _ w' => Hp.cl H w') ?_ ?_
  · iterate 3 refine cond_no rfl ?_
    refine cond_no (decide_eq_false (by omega)) ?_
    refine H.loadAll 1 rfl agg64 size64 ?_
    iterate 2 refine cond_no (decide_eq_false (by omega)) ?_
    refine call_fn (c167 room N B c n.lo _ (by omega) (hs.same H.keeps)) ?_ 
    rintro _ w10 ⟨rfl, hk⟩ 
    replace H := H.same hk 
    clear hk
    iterate 4 refine cond_no (decide_eq_false (by omega)) ?_
    refine H.loadAll 1 rfl agg64 size64 ?_
    iterate 2 refine cond_no (decide_eq_false (by omega)) ?_
    refine call_fn (c167 room N B c n.hi _ (by omega) (hs.same H.keeps)) ?_ 
    rintro _ w18 ⟨rfl, hk⟩ 
    replace H := H.same hk 
    clear hk
    iterate 4 refine cond_no (decide_eq_false (by omega)) ?_
    exact ⟨(), trivial, H⟩
  · rintro ⟨⟩ u w3 H1
    replace H : Hp _ _ _ _ _ := H1
    clear H1
    refine cut_rule (γ := Unit) _ rfl (fun _ => [(11, .int .i64 (N.length : Int))]) (fun _ w' => Hp.cl H w') ?_ ?_
    · refine fieldAddr_by (fa64_1 _) ?_
      refine H.load 1 rfl agg62 rfl ?_
      refine len_sl Try.underlying62 ?_
      exact ⟨(), ⟨rfl, trivial⟩, H⟩
    · rintro ⟨⟩ u w3 H1
      replace H : Hp _ _ _ _ _ := H1
      clear H1
      refine cut_rule (γ := Unit) _ rfl (fun _ => [(11, .int .i64 (freeA (ab N) : Int))]) (fun _ w' => (∀ j, slot (ab N) j ≠ some n) ∧ Hp.cl H w') ?_ ?_
      · refine fieldAddr_by (fa64_1 _) ?_
        refine H.load 1 rfl agg62 rfl ?_
        refine len_sl Try.underlying62 ?_
        have hw : IntKind.i64.wrap ((N.length : Int) - 1) = (N.length : Int) - 1 := by rw [IntKind.wrap_i64]; omega
        refine loop_rule (γ := Nat) _ rfl (fun k => [(12, .int .i64 ((k : Int) - 1)), (11, .int .i64 (fr (ab N) k : Int))]) (fun k w' => (k ≤ N.length ∧ ∀ j, k ≤ j → slot (ab N) j ≠ some n) ∧ Hp.cl H w') (fun k => k) N.length
          ⟨congrArg (Value.int .i64) hw, by have := fr_end (ab N); rw [ab_length] at this; rw [this]; rfl, trivial⟩ ⟨⟨Nat.le_refl _, fun j hj h => by have := slot_lt h; rw [ab_length] at this; omega⟩, H⟩ ?_
        rintro k u w4 ⟨⟨hk, hno⟩, H1⟩
        replace H : Hp _ _ _ _ _ := H1
        rcases k with _ | i
        · refine cond_no (decide_eq_false (by omega)) ?_
          exact ⟨(), ⟨by rw [← fr_zero]; rfl, trivial⟩, fun j => hno j (Nat.zero_le _), H1⟩
        · have hi : i < N.length := hk
          have e1 : ((i + 1 : Nat) : Int) - 1 = (i : Int) := by omega
          rw [e1]
          refine cond_yes (decide_eq_true (by omega)) ?_
          obtain ⟨⟨m, d⟩, hx⟩ : ∃ x, N[i]? = some x := ⟨_, List.getElem?_eq_getElem hi⟩
          have hsl := slot_ab hx
          have hfr := fr_step (A := ab N) (i := i) (by rw [ab_length]; omega)
          have hn1 := lvlA_range (A := ab N) (id := n.lo) (by omega)
          have hn2 := lvlA_range (A := ab N) (id := n.hi) (by omega)
          have ed : Value.int .i64 (IntKind.i64.wrap ((i : Int) - 1)) = .int .i64 ((i : Int) - 1) := by rw [IntKind.wrap_i64]; congr 1; omega
          obtain ⟨g0, o0, rfl⟩ := hs.A (by omega)
          refine fieldAddr_by (fa64_1 _) ?_
          refine H.load 1 rfl agg62 rfl ?_
          refine idxAddr_sl Try.underlying62 (s := 4) size78 i rfl hi (o' := o0 + i * 4) rfl ?_
          refine Sl.loadAgg H hs encN_length agg78 size78 i rfl hx ?_
          refine H.alloc 78 zero78 rfl ?_
          clear H
          intro g10 w10 H
          refine H.storeAll 0 rfl size78 rfl (fun v hv => encN_one (m, d) v hv) ?_
          clear H
          intro w11 H
          cases d with
          | true =>
            rw [if_pos rfl] at hsl
            replace hfr : fr (ab N) i = i := by rw [hfr, hsl]; rfl
            have hno' : ∀ j, i ≤ j → slot (ab N) j ≠ some n := fun j hj => by
              rcases Nat.lt_or_ge i j with h | h
              · exact hno j h
              · rw [show j = i by omega, hsl]; intro hh; cases hh
            have e11 : Value.int .i64 (i : Int) = .int .i64 (fr (ab N) i : Int) := by rw [hfr]
            refine fieldAddr_by (fa78_3 _) ?_
            refine H.load 0 rfl agg4 rfl ?_
            iterate 16 refine cond_no rfl ?_
            refine fieldAddr_by (fa78_3 _) ?_
            refine H.load 0 rfl agg4 rfl ?_
            refine cond_yes rfl ?_
            exact ⟨i, Nat.lt_succ_self i, ⟨ed, e11, trivial⟩, ⟨by omega, hno'⟩, H.forget⟩
          | false =>
            rw [if_neg (by simp)] at hsl
            rw [hsl, if_neg (by simp)] at hfr
            by_cases hmn : m = n
            · subst hmn
              have hf := (findA_some hu).2 hsl
              have ei : Value.int .i64 (IntKind.i64.wrap ((i : Int) + 2)) = .int .i64 ((i + 2 : Nat) : Int) := by rw [wlen2 (by omega)]
              refine fieldAddr_by (fa78_3 _) ?_
              refine H.load 0 rfl agg4 rfl ?_
              refine cond_yes rfl ?_
              refine fieldAddr_by (fa78_0 _) ?_
              refine cond_yes rfl ?_
              refine H.load 0 rfl agg3 rfl ?_
              iterate 3 refine cond_yes rfl ?_
              refine cond_yes (beq_self_eq_true _) ?_
              refine fieldAddr_by (fa78_1 _) ?_
              refine cond_yes (beq_self_eq_true _) ?_
              refine H.load 0 rfl agg3 rfl ?_
              iterate 4 refine cond_yes (beq_self_eq_true _) ?_
              refine fieldAddr_by (fa78_2 _) ?_
              refine cond_yes (beq_self_eq_true _) ?_
              refine H.load 0 rfl agg3 rfl ?_
              iterate 4 refine cond_yes (beq_self_eq_true _) ?_
              refine H.loadAll 2 rfl agg64 size64 ?_
              refine H.storeAll 1 rfl size64 rfl (fun v hv => rc_one v hv) ?_ 
              clear H 
              intro w33 H
              refine H.loadAll 1 rfl agg64 size64 ?_
              refine ⟨rfl, ?_⟩
              exact .inl ⟨i, hf, by rw [← ei]; rfl, H.keeps⟩
            · have hno' : ∀ j, i ≤ j → slot (ab N) j ≠ some n := fun j hj => by
                rcases Nat.lt_or_ge i j with h | h
                · exact hno j h
                · rw [show j = i by omega, hsl]; intro hh; injection hh with hh; exact hmn hh
              have e11 : Value.int .i64 (fr (ab N) (i + 1) : Int) = .int .i64 (fr (ab N) i : Int) := by rw [hfr]
              have hmn' : ¬ ((m.l : Int) = n.l ∧ (m.lo : Int) = n.lo ∧ (m.hi : Int) = n.hi) := fun ⟨h1, h2, h3⟩ => hmn (by cases m; cases n; simp only [Nd.mk.injEq]; exact ⟨Int.ofNat_inj.1 h1, Int.ofNat_inj.1 h2, Int.ofNat_inj.1 h3⟩)
              refine fieldAddr_by (fa78_3 _) ?_
              refine H.load 0 rfl agg4 rfl ?_
              refine cond_yes rfl ?_
              refine fieldAddr_by (fa78_0 _) ?_
              refine cond_yes rfl ?_
              refine H.load 0 rfl agg3 rfl ?_
              iterate 3 refine cond_yes rfl ?_
              refine cond_beq (fun h16 => ?_) (fun h16 => ?_)
              · refine fieldAddr_by (fa78_1 _) ?_
                refine cond_yes (beq_iff_eq.2 (by assumption)) ?_
                refine H.load 0 rfl agg3 rfl ?_
                iterate 3 refine cond_yes (beq_iff_eq.2 (by assumption)) ?_
                refine cond_beq (fun h24 => ?_) (fun h24 => ?_)
                · refine fieldAddr_by (fa78_2 _) ?_
                  refine cond_yes (beq_iff_eq.2 (by assumption)) ?_
                  refine H.load 0 rfl agg3 rfl ?_
                  iterate 3 refine cond_yes (beq_iff_eq.2 (by assumption)) ?_
                  refine cond_beq (fun h31 => ?_) (fun h31 => ?_)
                  · refine H.loadAll 2 rfl agg64 size64 ?_
                    refine H.storeAll 1 rfl size64 rfl (fun v hv => rc_one v hv) ?_ 
                    clear H 
                    intro w33 H
                    refine H.loadAll 1 rfl agg64 size64 ?_
                    exact absurd ⟨by assumption, by assumption, by assumption⟩ hmn'
                  · refine fieldAddr_by (fa78_3 _) ?_
                    refine H.load 0 rfl agg4 rfl ?_
                    refine cond_no rfl ?_
                    exact ⟨i, Nat.lt_succ_self i, ⟨ed, e11, trivial⟩, ⟨by omega, hno'⟩, H.forget⟩
                · refine cond_no (beq_eq_false_iff_ne.2 (by assumption)) ?_
                  iterate 3 refine cond_no (beq_eq_false_iff_ne.2 (by assumption)) ?_
                  refine cond_no rfl ?_
                  refine fieldAddr_by (fa78_3 _) ?_
                  refine H.load 0 rfl agg4 rfl ?_
                  refine cond_no rfl ?_
                  exact ⟨i, Nat.lt_succ_self i, ⟨ed, e11, trivial⟩, ⟨by omega, hno'⟩, H.forget⟩
              · refine cond_no (beq_eq_false_iff_ne.2 (by assumption)) ?_
                iterate 3 refine cond_no (beq_eq_false_iff_ne.2 (by assumption)) ?_
                iterate 6 refine cond_no rfl ?_
                refine fieldAddr_by (fa78_3 _) ?_
                refine H.load 0 rfl agg4 rfl ?_
                refine cond_no rfl ?_
                exact ⟨i, Nat.lt_succ_self i, ⟨ed, e11, trivial⟩, ⟨by omega, hno'⟩, H.forget⟩
      · rintro ⟨⟩ u w4 ⟨hno, H1⟩
        replace H : Hp _ _ _ _ _ := H1
        clear H1
        refine H.draw fol (by kernel_rfl) ?_
        clear H
        intro w5 H
        refine quiet _ (fun w H => H.loadAll 1 rfl agg64 size64 ⟨rfl, rfl⟩) ?_
        refine call_fn (c71 room N B c _ (by omega) (hs.same H.keeps)) ?_
        rintro _ w6 ⟨rfl, hk⟩
        replace H := H.same hk
        clear hk
        refine ⟨.inl H, ?_⟩
        refine quiet _ (fun w H => fieldAddr_by (fa64_0 _) ⟨rfl, rfl⟩) ?_
        refine quiet _ (fun w H => H.load 1 rfl agg3 rfl ⟨rfl, rfl⟩) ?_
        refine cond_dec (fun h9 => ?_) (fun h9 => ?_)
        · refine H.loadAll 1 rfl agg64 size64 ?_
          refine H.storeAll 0 rfl size64 rfl (fun v hv => rc_one v hv) ?_ 
          clear H 
          intro w7 H
          refine H.loadAll 0 rfl agg64 size64 ?_
          refine ⟨rfl, ?_⟩
          exact .inr (.inl ⟨findA_not hno, h9, rfl, H.keeps⟩)
        · refine cut_rule (γ := Nat × Option Addr × Nat) _ rfl (fun (g, _, _) => [(14, .pointer (some ⟨g, 0, none⟩))])
            (fun (g, A, d) w' => Hp w (fun _ => False) w' [blk g 64 (rc room (.slice A N.length d)), own 78 4 (.slice A N.length d) N.length (flat encN N), blk g2 64 (rv 0 (.slice none 0 0)).cells, blk g1 64 (rc room (.slice B N.length c))] []) ?_ ?_
          · refine draw_orders (fun w' => Hp w (fun _ => False) w' [blk g2 64 (rv 0 (.slice none 0 0)).cells, blk g1 64 (rc room (.slice B N.length c))] [])
              [([2, 5, 7, 8], [0, 1, 2, 3, 4, 5, 6, 7, 8]), ([2, 7, 5, 8], [0, 1, 2, 3, 4, 7, 5, 6, 8]), ([7, 2, 5, 8], [7, 0, 1, 2, 3, 4, 5, 6, 8])] fol (by kernel_rfl) (H.same (Keeps.drew _)) ?_
            replace H := (H.same (Keeps.drew _))
            intro x hx
            simp only [List.mem_cons, List.not_mem_nil, or_false] at hx
            rcases hx with rfl | rfl | rfl
            · refine quiet _ (fun w H => fieldAddr_by (fa64_0 _) ⟨rfl, rfl⟩) ?_
              refine quiet _ (fun w H => H.load 1 rfl agg3 rfl ⟨rfl, rfl⟩) ?_
              refine Hp.buildNil H T62 ?_ 
              clear H 
              intro g7 w7 H 
              refine ⟨.inl H.forget, ?_⟩
              refine quiet _ (fun w H => fieldAddr_by (fa64_1 _) ⟨rfl, rfl⟩) ?_
              refine quiet _ (fun w H => H.load 1 rfl agg62 rfl ⟨rfl, rfl⟩) ?_
              refine Hp.appendCopy H 0 T62 rfl (hs.same H.keeps) (flat_one4 N) (by omega) (by omega) ?_ 
              clear H 
              intro A d w8 H 
              refine ⟨.inl H.forget, ?_⟩
              refine quiet _ (fun w H => build64b ⟨rfl, rfl⟩) ?_
              refine H.alloc 64 zero64 rfl ?_ 
              clear H 
              intro g9 w9 H 
              refine ⟨.inl H.forget.forget, ?_⟩
              refine H.storeAll 0 rfl size64 rfl (fun v hv => rc_one v hv) ?_ 
              clear H 
              intro w10 H 
              refine ⟨.inl H.forget.forget, ?_⟩
              exact ⟨(g9, A, d), ⟨rfl, trivial⟩, H⟩
            · refine quiet _ (fun w H => fieldAddr_by (fa64_0 _) ⟨rfl, rfl⟩) ?_
              refine quiet _ (fun w H => H.load 1 rfl agg3 rfl ⟨rfl, rfl⟩) ?_
              refine Hp.buildNil H T62 ?_ 
              clear H 
              intro g7 w7 H 
              refine ⟨.inl H.forget, ?_⟩
              refine quiet _ (fun w H => fieldAddr_by (fa64_1 _) ⟨rfl, rfl⟩) ?_
              refine quiet _ (fun w H => H.load 1 rfl agg62 rfl ⟨rfl, rfl⟩) ?_
              refine H.alloc 64 zero64 rfl ?_ 
              clear H 
              intro g9 w9 H 
              refine ⟨.inl H.forget.forget, ?_⟩
              refine Hp.appendCopy H 1 T62 rfl (hs.same H.keeps) (flat_one4 N) (by omega) (by omega) ?_ 
              clear H 
              intro A d w8 H 
              refine ⟨.inl H.forget.forget, ?_⟩
              refine quiet _ (fun w H => build64b ⟨rfl, rfl⟩) ?_
              refine H.storeAll 0 rfl size64 rfl (fun v hv => rc_one v hv) ?_ 
              clear H 
              intro w10 H 
              refine ⟨.inl H.forget.forget, ?_⟩
              exact ⟨(g9, A, d), ⟨rfl, trivial⟩, H⟩
            · refine H.alloc 64 zero64 rfl ?_
              clear H
              intro g9 w9 H
              refine ⟨.inl H.forget, ?_⟩
              refine quiet _ (fun w H => fieldAddr_by (fa64_0 _) ⟨rfl, rfl⟩) ?_
              refine quiet _ (fun w H => H.load 1 rfl agg3 rfl ⟨rfl, rfl⟩) ?_
              refine Hp.buildNil H T62 ?_ 
              clear H 
              intro g7 w7 H 
              refine ⟨.inl H.forget.forget, ?_⟩
              refine quiet _ (fun w H => fieldAddr_by (fa64_1 _) ⟨rfl, rfl⟩) ?_
              refine quiet _ (fun w H => H.load 1 rfl agg62 rfl ⟨rfl, rfl⟩) ?_
              refine Hp.appendCopy H 0 T62 rfl (hs.same H.keeps) (flat_one4 N) (by omega) (by omega) ?_ 
              clear H 
              intro A d w8 H 
              refine ⟨.inl H.forget.forget, ?_⟩
              refine quiet _ (fun w H => build64b ⟨rfl, rfl⟩) ?_
              refine H.storeAll 1 rfl size64 rfl (fun v hv => rc_one v hv) ?_ 
              clear H 
              intro w10 H 
              refine ⟨.inl H.forget.forget, ?_⟩
              exact ⟨(g9, A, d), ⟨rfl, trivial⟩, H.front 1 rfl⟩
          · clear H
            rintro ⟨g3, A, d⟩ u w8 H
            replace H : Hp _ _ _ _ _ := H
            have hfl := freeA_le (ab N)
            rw [ab_length] at hfl
            refine cut_rule (γ := List RN × Option Addr × Nat) _ rfl (fun _ => [])
              (fun (N1, A, d) w' => (freeA (ab N) < N1.length ∧ ab (N1.set (freeA (ab N)) (n, false)) = putA (ab N) n) ∧ Hp w (fun _ => False) w' [blk g3 64 (rc room (.slice A N1.length d)), own 78 4 (.slice A N1.length d) N1.length (flat encN N1), blk g2 64 (rv 0 (.slice none 0 0)).cells, blk g1 64 (rc room (.slice B N.length c))] []) ?_ ?_
            · refine fieldAddr_by (fa64_1 _) ?_
              refine H.load 0 rfl agg62 rfl ?_
              refine len_sl Try.underlying62 ?_
              refine cond_beq (fun h12 => ?_) (fun h12 => ?_)
              · have h12 : freeA (ab N) = N.length := by omega
                refine fieldAddr_by (fa64_1 _) ?_
                refine H.load 0 rfl agg62 rfl ?_
                refine build78z ?_
                refine H.buildSl T62 (cs := (encN (⟨0, 0, 0⟩, false)).toArray) (by decide) (by decide) (by kernel_rfl) ?_
                clear H
                intro g5 w9 H
                refine H.appendBlk 2 0 T62 rfl rfl rfl (encN_one _) (by omega) (by omega) ?_
                clear H
                intro A1 d1 w10 H
                refine fieldAddr_by (fa64_1 _) ?_
                refine H.store 1 rfl size62 (by show 1 < 2; decide) rfl ?_
                clear H
                intro w11 H
                have hli : (N ++ [((⟨0, 0, 0⟩ : Nd), false)]).length = N.length + 1 := by simp
                exact ⟨(N ++ [(⟨0, 0, 0⟩, false)], A1, d1), trivial, ⟨by rw [hli]; omega, put_snoc h12⟩, by rw [hli, flat_snoc]; exact H.forget⟩
              · have h12 : freeA (ab N) ≠ N.length := by omega
                exact ⟨(N, A, d), trivial, ⟨by omega, put_set h12⟩, H⟩
            · clear H
              rintro ⟨N1, A, d⟩ u w9 ⟨⟨hf, hput⟩, H⟩
              obtain ⟨g6, rfl⟩ := H.ownA 1 rfl (by omega)
              have hfw : IntKind.i64.wrap ((freeA (ab N) : Int) + 2) = ((freeA (ab N) + 2 : Nat) : Int) := wlen2 (by omega)
              refine fieldAddr_by (fa64_1 _) ?_
              refine H.load 0 rfl agg62 rfl ?_
              refine build78 ?_
              refine idxAddr_sl Try.underlying62 (s := 4) size78 _ rfl hf (o' := freeA (ab N) * 4) (by omega) ?_
              refine H.storeOwnAgg 1 (n, false) rfl encN_length size78 _ rfl hf rfl (encN_one _) ?_
              clear H
              intro w12 H
              have hln : (N1.set (freeA (ab N)) (n, false)).length = N1.length := List.length_set ..
              refine H.loadAll 0 rfl agg64 size64 ?_
              refine H.storeAll 2 rfl size64 rfl (fun v hv => rc_one v hv) ?_ 
              clear H 
              intro w10 H
              refine H.loadAll 2 rfl agg64 size64 ?_
              refine ⟨rfl, ?_⟩
              exact .inr (.inr ⟨findA_not hno, by omega, N1.set (freeA (ab N)) (n, false), _, d, hput, by rw [← hfw, hln]; rfl, by rw [hln]; exact H.outAt 1 rfl⟩)
/-- Make of the reference: what mkA says. -/
theorem c69 (room : Int) (N : List RN) (B : Option Addr) (c : Nat) (l lo hi : Int) (w : World) (hl : N.length ≤ 100000) (hs : Sl w (.slice B N.length c) 4 N.length (flat encN N)) (hinv : ArInv (ab N)) :
    Fun Try.prog 69 [rv room (.slice B N.length c), .int .i64 l, .int .i64 lo, .int .i64 hi] w fun v w' =>
      ∃ N' B' c', ab N' = (mkA room (ab N) l lo hi).1 ∧ v = .tuple #[rv room (.slice B' N'.length c'), .int .i64 (mkA room (ab N) l lo hi).2.1, .int .i64 (mkA room (ab N) l lo hi).2.2] ∧
        ((N' = N ∧ B' = B ∧ c' = c ∧ Same w w') ∨ NewR w w' (own 78 4 (.slice B' N'.length c') N'.length (flat encN N'))) := by
  have h1 := lvlA_le hinv lo
  by_cases hb : l < 0 ∨ lvlA (ab N) lo ≤ l ∨ lvlA (ab N) hi ≤ l
  · refine (c69_b room N B c l lo hi (by omega) w (by omega) hs).mono ?_
    rintro v w' ⟨rfl, hk⟩
    unfold mkA
    rw [if_pos hb]
    exact ⟨N, B, c, rfl, rfl, .inl ⟨rfl, rfl, rfl, hk⟩⟩
  · have g1 : 0 ≤ lo := by
      rcases lvlA_node (A := ab N) (id := lo) (by omega) with rfl | rfl | ⟨i, n, rfl, _⟩ <;> omega
    have g2 : 0 ≤ hi := by
      rcases lvlA_node (A := ab N) (id := hi) (by omega) with rfl | rfl | ⟨i, n, rfl, _⟩ <;> omega
    have e : mkA room (ab N) l lo hi = (match findA (ab N) ⟨l.toNat, lo.toNat, hi.toNat⟩ with
      | some i => (ab N, ((i + 2 : Nat) : Int), 0)
      | none => if room ≤ (liveA (ab N) : Int) then (ab N, 0, 5) else (putA (ab N) ⟨l.toNat, lo.toNat, hi.toNat⟩, ((freeA (ab N) + 2 : Nat) : Int), 0)) := by
      unfold mkA; rw [if_neg hb]; rfl
    rw [e]
    have hg := c69_g room N B c ⟨l.toNat, lo.toNat, hi.toNat⟩ w hl hs hinv.uniq (by show ((l.toNat : Nat) : Int) ≤ 23; omega)
      (by show ((l.toNat : Nat) : Int) < lvlA (ab N) ((lo.toNat : Nat) : Int); rw [Int.toNat_of_nonneg g1]; omega)
      (by show ((l.toNat : Nat) : Int) < lvlA (ab N) ((hi.toNat : Nat) : Int); rw [Int.toNat_of_nonneg g2]; omega)
    have e1 : ((l.toNat : Nat) : Int) = l := Int.toNat_of_nonneg (by omega)
    have e2 : ((lo.toNat : Nat) : Int) = lo := Int.toNat_of_nonneg g1
    have e3 : ((hi.toNat : Nat) : Int) = hi := Int.toNat_of_nonneg g2
    simp only [e1, e2, e3] at hg
    refine hg.mono ?_
    rintro v w' (⟨i, hf, rfl, hk⟩ | ⟨hf, hr, rfl, hk⟩ | ⟨hf, hr, N', B', c', hp, rfl, hn⟩)
    · rw [hf]; exact ⟨N, B, c, rfl, rfl, .inl ⟨rfl, rfl, rfl, hk⟩⟩
    · rw [hf]; simp only [if_pos hr]; exact ⟨N, B, c, rfl, rfl, .inl ⟨rfl, rfl, rfl, hk⟩⟩
    · rw [hf]; simp only [if_neg (show ¬ room ≤ (liveA (ab N) : Int) by omega)]; exact ⟨N', B', c', hp, rfl, .inr hn⟩
end Go.Proofs.Ytjebpngdinbckaa

import Derived.Test.YtjebpngdinbckaaPart4
import Derived.Maps.RangeRun
import Derived.Laws.Slices
/- Lemmas, part 5: what the proof of the row uses. -/
section
/- The reference's arenas: Make. -/
namespace Go.Proofs.Ytjebpngdinbckaa
open Go.Dk
attribute [local irreducible] IntKind.wrap

section
variable {P : Program} {w0 w w' : World} {F : Nat → Prop} {L M : List Res} {k kk : Value → World → Prop}
/-- An empty literal slice. -/
theorem Hp.buildNil (H : Hp w0 F w L M) {t e : TypeId} {z : Value} {sz b : Nat} (T : SlT P t e z sz b)
    (h : ∀ g w', Hp w0 F w' (own e sz (.slice (some ⟨g, 0, none⟩) 0 0) 0 [] :: L) M → k (.slice (some ⟨g, 0, none⟩) 0 0) w') : buildSliceK P t 0 [] w k := by
  unfold buildSliceK
  refine ⟨_, w.alloc (.cells #[] e), ?_, h w.heap.size _ (H.add (Keeps.alloc _ _) _ ?_ ?_)⟩
  · simp only [Instr.buildSlice, Sem.run_bind, run_underlying T.und, Result.andThen_ok, Go.Dk.run_sizeOf T.size]
    simp [Instr.fill, newRow]
    exact congrArg (fun x => w.alloc (.cells x e)) (Array.eq_empty_of_size_eq_zero (by simp))
  · exact ⟨by simp, .inr ⟨w.heap.size, 0, #[], rfl, Nat.zero_le _, heap_alloc_new w _, Nat.le_refl _, by unfold maxLen; omega, by simp, by simp⟩⟩
  · rintro g hg
    have : w.heap.size = g := by injection hg
    subst this
    exact ⟨Nat.le_refl _, by simp⟩
/-- append of a slice that is only read onto an empty one of one's own: a copy. -/
theorem Hp.appendCopy (H : Hp w0 F w L M) (n : Nat) {t e ty : TypeId} {z : Value} {sz b g c d : Nat} {A : Option Addr} {xs : List Value} {cst : Array Bool} (T : SlT P t e z sz b)
    (hn : L[n]? = some (own e sz (.slice (some ⟨g, 0, none⟩) 0 0) 0 [])) (hs : Sl w (.slice A c d) sz c xs) (h1 : ∀ u ∈ xs, u.oneCell' = true) (hl : c * b ≤ 140737488355328) (hl' : c < 1152921504606846976)
    (h : ∀ A d w', Hp w0 F w' (L.set n (own e sz (.slice A c d) c xs)) M → kk (.slice A c d) w') :
    builtinK P .append #[t, t] ty cst [.slice (some ⟨g, 0, none⟩) 0 0, .slice A c d] w kk := by
  obtain ⟨i, hi, hz, hs', hb⟩ := T.parts
  have hown : w.ownsRow 0 e sz (.slice (some ⟨g, 0, none⟩) 0 0) 0 [] := H.get n hn
  have hxl := hs.1
  rcases A with _ | a
  · have hc : c = 0 := by
      rcases Nat.eq_zero_or_pos c with h0 | h0
      · exact h0
      · obtain ⟨_, _, hA⟩ := hs.A h0; cases hA
    subst hc
    have hx : xs = [] := List.eq_nil_of_length_eq_zero (by simpa using hxl)
    subst hx
    have hL : L.set n (own e sz (.slice (some ⟨g, 0, none⟩) 0 0) 0 []) = L := by
      obtain ⟨h1, h2⟩ := List.getElem?_eq_some_iff.1 hn
      rw [← h2]; exact List.set_getElem_self h1
    unfold builtinK
    refine ⟨_, w, ?_, h (some ⟨g, 0, none⟩) 0 w (by rw [hL]; exact H)⟩
    show (do pure (.value (← Builtin.append_ #[t, t] ty #[.slice (some ⟨g, 0, none⟩) 0 0, .slice none 0 d])) : Sem Next).run P w = _
    simp [Builtin.append_, run_underlying T.und, sizeOf, typeInfo, hi, Builtin.lenOf, Builtin.firstCells, storeCells]
  · obtain ⟨v', w', hrun, hown', hg, _, hloc⟩ := run_append_own_at (P := P) w 0 t ty e i z sz b T.und hi hz hs' hb T.zs T.pos (.slice (some ⟨g, 0, none⟩) 0 0) 0 [] hown a c d xs hxl
      (fun j u hu => by
        have hjl := (List.getElem?_eq_some_iff.1 hu).1
        have hc : 0 < c := by
          rcases Nat.eq_zero_or_pos c with h0 | h0
          · subst h0; simp at hxl; subst hxl; simp at hjl
          · exact h0
        obtain ⟨g', o', ha⟩ := hs.A hc
        injection ha with ha
        subst ha
        have hadd : (⟨g', o', none⟩ : Addr).add j = ⟨g', o' + j, none⟩ := by unfold Addr.add; split <;> simp_all
        rw [hadd, hs.cell j (by omega), hu]) h1 (by unfold maxLen; omega) (by rw [Nat.zero_add]; exact hl) (Nat.zero_le _)
    rw [Nat.zero_add, List.nil_append] at hown'
    have hk : Keeps (own e sz (.slice (some ⟨g, 0, none⟩) 0 0) 0 []).foot w w' := ⟨hg.os, hg.tape, hg.output, hg.size, fun x hx hne => hg.block x hx fun e => hne e.symm⟩
    have H' := H.turn n hn (own e sz v' c xs) hk hown' (fun x hx => ⟨(World.ownsRow.lt (w := w') (base := 0) hown' x hx).2, by
      have hx' : v'.ownBlock = some x := hx
      rcases hloc with h | h
      · left; show Value.ownBlock _ = some x; rw [← h]; exact hx'
      · right; rw [h] at hx'; injection hx' with hx'; omega⟩)
    have hv : ∃ A d, v' = .slice A c d := by
      rcases hown'.2 with ⟨rfl, h0⟩ | ⟨g', cap, cur, hv, _⟩
      · exact ⟨none, 0, by rw [h0]⟩
      · exact ⟨_, _, hv⟩
    obtain ⟨A, d', rfl⟩ := hv
    unfold builtinK
    refine ⟨_, w', ?_, h A d' w' H'⟩
    show (do pure (.value (← Builtin.append_ #[t, t] ty #[.slice (some ⟨g, 0, none⟩) 0 0, .slice (some a) c d])) : Sem Next).run P w = _
    rw [Sem.run_bind, hrun]
    rfl
end
theorem flat_one4 (N : List RN) : ∀ v ∈ flat encN N, v.oneCell' = true := by
  intro v hv
  unfold flat at hv
  obtain ⟨x, _, hx⟩ := List.mem_flatMap.1 hv
  exact encN_one x v hx
theorem build64a {a : Int} {w : World} {kk : Value → World → Prop} (h : kk (rv a (.slice none 0 0)) w) : buildK Try.prog 64 [(0, .int .i64 a)] w kk := build_by (fun w => by kernel_rfl) h
theorem build64b {a : Int} {A : Option Addr} {l c : Nat} {w : World} {kk : Value → World → Prop} (h : kk (rv a (.slice A l c)) w) : buildK Try.prog 64 [(0, .int .i64 a), (1, .slice A l c)] w kk := build_by (fun w => by kernel_rfl) h
theorem build78z {w : World} {kk : Value → World → Prop} (h : kk z78 w) : buildK Try.prog 78 [] w kk := build_by (fun w => by kernel_rfl) h
theorem ab_set (N : List RN) (i : Nat) (n : Nd) : ab (N.set i (n, false)) = (ab N).set i (some n) := by unfold ab; rw [List.map_set]; rfl
theorem put_snoc {N : List RN} {n z : Nd} (h : freeA (ab N) = N.length) : ab ((N ++ [(z, false)]).set (freeA (ab N)) (n, false)) = putA (ab N) n := by
  rw [ab_set]
  unfold putA
  rw [if_pos (by rw [ab_length]; exact h), h]
  unfold ab
  rw [List.map_append, List.set_append_right _ _ (by simp)]
  simp
theorem put_set {N : List RN} {n : Nd} (h : freeA (ab N) ≠ N.length) : ab (N.set (freeA (ab N)) (n, false)) = putA (ab N) n := by
  rw [ab_set]
  unfold putA
  rw [if_neg (by rw [ab_length]; exact h)]
theorem size62 : sizeT Try.prog 62 = some 1 := by kernel_rfl
theorem zero64 : zeroT Try.prog 64 = some (rv 0 (.slice none 0 0)) := by kernel_rfl
theorem rc_one {room : Int} {A : Option Addr} {l c : Nat} : ∀ v ∈ (rc room (.slice A l c)).toList, v.oneCell' = true := by
  intro v hv
  simp [rc] at hv
  rcases hv with rfl | rfl <;> rfl
theorem ent69 : enters Try.prog 69 = true := by kernel_rfl
theorem c69_b (room : Int) (N : List RN) (B : Option Addr) (c : Nat) (l lo hi : Int) (hb : l < 0 ∨ 23 < l ∨ lvlA (ab N) lo ≤ l ∨ lvlA (ab N) hi ≤ l) (w : World) (hl : N.length ≤ 1000000) (hs : Sl w (.slice B N.length c) 4 N.length (flat encN N)) :
    Fun Try.prog 69 [rv room (.slice B N.length c), .int .i64 l, .int .i64 lo, .int .i64 hi] w fun v w' => v = .tuple #[rv room (.slice B N.length c), .int .i64 0, .int .i64 1] ∧ Same w w' := by
  refine fun_of_W (N := 114) Try.func69 ent69 rfl rfl rfl (by simp) ?_
  have H := Hp.start0 w
  refine H.box 64 (rv _ _) (cs := rc _ _) rfl ?_
  clear H
  intro g1 w1 H
  refine H.alloc 64 zero64 rfl ?_
  clear H
  intro g2 w2 H
  refine cond_dec (fun h3 => ?_) (fun h3 => ?_)
  · refine cond_yes (decide_eq_true (by assumption)) ?_
    refine cond_yes (decide_eq_true (by assumption)) ?_
    iterate 13 refine cond_yes rfl ?_
    refine H.loadAll 1 rfl agg64 size64 ?_
    refine H.storeAll 0 rfl size64 rfl (fun v hv => rc_one v hv) ?_ 
    clear H 
    intro w20 H
    refine H.loadAll 0 rfl agg64 size64 ?_
    refine ⟨rfl, ?_⟩
    exact ⟨rfl, H.keeps⟩
  · refine cond_no (decide_eq_false (by assumption)) ?_
    refine cond_no (decide_eq_false (by assumption)) ?_
    refine cond_dec (fun h26 => ?_) (fun h26 => ?_)
    · refine cond_yes (decide_eq_true (by assumption)) ?_
      iterate 4 refine cond_yes (decide_eq_true (by assumption)) ?_
      iterate 7 refine cond_yes rfl ?_
      refine H.loadAll 1 rfl agg64 size64 ?_
      refine H.storeAll 0 rfl size64 rfl (fun v hv => rc_one v hv) ?_ 
      clear H 
      intro w40 H
      refine H.loadAll 0 rfl agg64 size64 ?_
      refine ⟨rfl, ?_⟩
      exact ⟨rfl, H.keeps⟩
    · refine H.loadAll 1 rfl agg64 size64 ?_
      iterate 2 refine cond_no (decide_eq_false (by assumption)) ?_
      refine call_fn (c167 room N B c lo _ hl (hs.same H.keeps)) ?_ 
      rintro _ w47 ⟨rfl, hk⟩ 
      replace H := H.same hk 
      clear hk
      iterate 3 refine cond_no (decide_eq_false (by assumption)) ?_
      refine cond_dec (fun h51 => ?_) (fun h51 => ?_)
      · refine cond_yes (decide_eq_true (by assumption)) ?_
        iterate 4 refine cond_yes (decide_eq_true (by assumption)) ?_
        refine cond_yes rfl ?_
        refine H.loadAll 1 rfl agg64 size64 ?_
        refine H.storeAll 0 rfl size64 rfl (fun v hv => rc_one v hv) ?_ 
        clear H 
        intro w59 H
        refine H.loadAll 0 rfl agg64 size64 ?_
        refine ⟨rfl, ?_⟩
        exact ⟨rfl, H.keeps⟩
      · refine H.loadAll 1 rfl agg64 size64 ?_
        iterate 2 refine cond_no (decide_eq_false (by assumption)) ?_
        refine call_fn (c167 room N B c hi _ hl (hs.same H.keeps)) ?_ 
        rintro _ w66 ⟨rfl, hk⟩ 
        replace H := H.same hk 
        clear hk
        iterate 3 refine cond_no (decide_eq_false (by assumption)) ?_
        refine cond_yes (decide_eq_true (by omega)) ?_
        refine H.loadAll 1 rfl agg64 size64 ?_
        refine H.storeAll 0 rfl size64 rfl (fun v hv => rc_one v hv) ?_ 
        clear H 
        intro w72 H
        refine H.loadAll 0 rfl agg64 size64 ?_
        refine ⟨rfl, ?_⟩
        exact ⟨rfl, H.keeps⟩

/-- The lowest free place from k on. -/
def fr (A : Ar) (k : Nat) : Nat := k + (A.drop k).findIdx (·.isNone)
theorem fr_end (A : Ar) : fr A A.length = A.length := by unfold fr; simp
theorem fr_zero (A : Ar) : fr A 0 = freeA A := by unfold fr freeA; simp
theorem fr_step {A : Ar} {i : Nat} (hi : i < A.length) : fr A i = if (slot A i).isNone then i else fr A (i + 1) := by
  unfold fr
  have h : A.drop i = slot A i :: A.drop (i + 1) := by
    rw [List.drop_eq_getElem_cons hi]
    have := slot_get hi
    rw [List.getElem?_eq_getElem hi] at this
    injection this with this
    rw [this]
  rw [h, List.findIdx_cons]
  cases (slot A i).isNone
  · simp; omega
  · simp
theorem fr_le (A : Ar) {k : Nat} (hk : k ≤ A.length) : fr A k ≤ A.length := by
  unfold fr
  have := List.findIdx_le_length (xs := A.drop k) (p := fun x : Option Nd => x.isNone)
  rw [List.length_drop] at this; omega
theorem findA_not {A : Ar} {n : Nd} (h : ∀ j, slot A j ≠ some n) : findA A n = none := findA_none.2 h
/-- What Make answers in room, when the node's halves are right. -/
theorem c69_g (room : Int) (N : List RN) (B : Option Addr) (c : Nat) (n : Nd) (w : World) (hl : N.length ≤ 100000) (hs : Sl w (.slice B N.length c) 4 N.length (flat encN N)) (hu : Uniq (ab N))
    (h23 : (n.l : Int) ≤ 23) (h1 : (n.l : Int) < lvlA (ab N) n.lo) (h2 : (n.l : Int) < lvlA (ab N) n.hi) :
    Fun Try.prog 69 [rv room (.slice B N.length c), .int .i64 n.l, .int .i64 n.lo, .int .i64 n.hi] w fun v w' =>
      (∃ i, findA (ab N) n = some i ∧ v = .tuple #[rv room (.slice B N.length c), .int .i64 ((i + 2 : Nat) : Int), .int .i64 0] ∧ Same w w') ∨
      (findA (ab N) n = none ∧ room ≤ (liveA (ab N) : Int) ∧ v = .tuple #[rv room (.slice B N.length c), .int .i64 0, .int .i64 5] ∧ Same w w') ∨
      (findA (ab N) n = none ∧ (liveA (ab N) : Int) < room ∧ ∃ N' B' c', ab N' = putA (ab N) n ∧ v = .tuple #[rv room (.slice B' N'.length c'), .int .i64 ((freeA (ab N) + 2 : Nat) : Int), .int .i64 0] ∧
        NewR w w' (own 78 4 (.slice B' N'.length c') N'.length (flat encN N'))) := by
  refine fun_of_W (N := 114) Try.func69 ent69 rfl rfl rfl (by simp) ?_
  have H := Hp.start0 w
  refine H.box 64 (rv _ _) (cs := rc _ _) rfl ?_
  clear H
  intro g1 w1 H
  refine H.alloc 64 zero64 rfl ?_
  clear H
  intro g2 w2 H
  refine cut_rule (γ := Unit) _ rfl (fun _ => []) (fun _ w' => Hp.cl H w') ?_ ?_
  · iterate 3 refine cond_no rfl ?_
    refine cond_no (decide_eq_false (by omega)) ?_
    refine H.loadAll 1 rfl agg64 size64 ?_
    iterate 2 refine cond_no (decide_eq_false (by omega)) ?_
    refine call_fn (c167 room N B c n.lo _ (by omega) (hs.same H.keeps)) ?_ 
    rintro _ w10 ⟨rfl, hk⟩ 
    replace H := H.same hk 
    clear hk
    iterate 4 refine cond_no (decide_eq_false (by omega)) ?_
    refine H.loadAll 1 rfl agg64 size64 ?_
    iterate 2 refine cond_no (decide_eq_false (by omega)) ?_
    refine call_fn (c167 room N B c n.hi _ (by omega) (hs.same H.keeps)) ?_ 
    rintro _ w18 ⟨rfl, hk⟩ 
    replace H := H.same hk 
    clear hk
    iterate 4 refine cond_no (decide_eq_false (by omega)) ?_
    exact ⟨(), trivial, H⟩
  · rintro ⟨⟩ u w3 H1
    replace H : Hp _ _ _ _ _ := H1
    clear H1
    refine cut_rule (γ := Unit) _ rfl (fun _ => [(11, .int .i64 (N.length : Int))]) (fun _ w' => Hp.cl H w') ?_ ?_
    · refine fieldAddr_by (fa64_1 _) ?_
      refine H.load 1 rfl agg62 rfl ?_
      refine len_sl Try.underlying62 ?_
      exact ⟨(), ⟨rfl, trivial⟩, H⟩
    · rintro ⟨⟩ u w3 H1
      replace H : Hp _ _ _ _ _ := H1
      clear H1
      refine cut_rule (γ := Unit) _ rfl (fun _ => [(11, .int .i64 (freeA (ab N) : Int))]) (fun _ w' => (∀ j, slot (ab N) j ≠ some n) ∧ Hp.cl H w') ?_ ?_
      · refine fieldAddr_by (fa64_1 _) ?_
        refine H.load 1 rfl agg62 rfl ?_
        refine len_sl Try.underlying62 ?_
        have hw : IntKind.i64.wrap ((N.length : Int) - 1) = (N.length : Int) - 1 := by rw [IntKind.wrap_i64]; omega
        refine loop_rule (γ := Nat) _ rfl (fun k => [(12, .int .i64 ((k : Int) - 1)), (11, .int .i64 (fr (ab N) k : Int))]) (fun k w' => (k ≤ N.length ∧ ∀ j, k ≤ j → slot (ab N) j ≠ some n) ∧ Hp.cl H w') (fun k => k) N.length
          ⟨congrArg (Value.int .i64) hw, by have := fr_end (ab N); rw [ab_length] at this; rw [this]; rfl, trivial⟩ ⟨⟨Nat.le_refl _, fun j hj h => by have := slot_lt h; rw [ab_length] at this; omega⟩, H⟩ ?_
        rintro k u w4 ⟨⟨hk, hno⟩, H1⟩
        replace H : Hp _ _ _ _ _ := H1
        rcases k with _ | i
        · refine cond_no (decide_eq_false (by omega)) ?_
          exact ⟨(), ⟨by rw [← fr_zero]; rfl, trivial⟩, fun j => hno j (Nat.zero_le _), H1⟩
        · have hi : i < N.length := hk
          have e1 : ((i + 1 : Nat) : Int) - 1 = (i : Int) := by omega
          rw [e1]
          refine cond_yes (decide_eq_true (by omega)) ?_
          obtain ⟨⟨m, d⟩, hx⟩ : ∃ x, N[i]? = some x := ⟨_, List.getElem?_eq_getElem hi⟩
          have hsl := slot_ab hx
          have hfr := fr_step (A := ab N) (i := i) (by rw [ab_length]; omega)
          have hn1 := lvlA_range (A := ab N) (id := n.lo) (by omega)
          have hn2 := lvlA_range (A := ab N) (id := n.hi) (by omega)
          have ed : Value.int .i64 (IntKind.i64.wrap ((i : Int) - 1)) = .int .i64 ((i : Int) - 1) := by rw [IntKind.wrap_i64]; congr 1; omega
          obtain ⟨g0, o0, rfl⟩ := hs.A (by omega)
          refine fieldAddr_by (fa64_1 _) ?_
          refine H.load 1 rfl agg62 rfl ?_
          refine idxAddr_sl Try.underlying62 (s := 4) size78 i rfl hi (o' := o0 + i * 4) rfl ?_
          refine Sl.loadAgg H hs encN_length agg78 size78 i rfl hx ?_
          refine H.alloc 78 zero78 rfl ?_
          clear H
          intro g10 w10 H
          refine H.storeAll 0 rfl size78 rfl (fun v hv => encN_one (m, d) v hv) ?_
          clear H
          intro w11 H
          cases d with
          | true =>
            rw [if_pos rfl] at hsl
            replace hfr : fr (ab N) i = i := by rw [hfr, hsl]; rfl
            have hno' : ∀ j, i ≤ j → slot (ab N) j ≠ some n := fun j hj => by
              rcases Nat.lt_or_ge i j with h | h
              · exact hno j h
              · rw [show j = i by omega, hsl]; intro hh; cases hh
            have e11 : Value.int .i64 (i : Int) = .int .i64 (fr (ab N) i : Int) := by rw [hfr]
            refine fieldAddr_by (fa78_3 _) ?_
            refine H.load 0 rfl agg4 rfl ?_
            iterate 16 refine cond_no rfl ?_
            refine fieldAddr_by (fa78_3 _) ?_
            refine H.load 0 rfl agg4 rfl ?_
            refine cond_yes rfl ?_
            exact ⟨i, Nat.lt_succ_self i, ⟨ed, e11, trivial⟩, ⟨by omega, hno'⟩, H.forget⟩
          | false =>
            rw [if_neg (by simp)] at hsl
            rw [hsl, if_neg (by simp)] at hfr
            by_cases hmn : m = n
            · subst hmn
              have hf := (findA_some hu).2 hsl
              have ei : Value.int .i64 (IntKind.i64.wrap ((i : Int) + 2)) = .int .i64 ((i + 2 : Nat) : Int) := by rw [wlen2 (by omega)]
              refine fieldAddr_by (fa78_3 _) ?_
              refine H.load 0 rfl agg4 rfl ?_
              refine cond_yes rfl ?_
              refine fieldAddr_by (fa78_0 _) ?_
              refine cond_yes rfl ?_
              refine H.load 0 rfl agg3 rfl ?_
              iterate 3 refine cond_yes rfl ?_
              refine cond_yes (beq_self_eq_true _) ?_
              refine fieldAddr_by (fa78_1 _) ?_
              refine cond_yes (beq_self_eq_true _) ?_
              refine H.load 0 rfl agg3 rfl ?_
              iterate 4 refine cond_yes (beq_self_eq_true _) ?_
              refine fieldAddr_by (fa78_2 _) ?_
              refine cond_yes (beq_self_eq_true _) ?_
              refine H.load 0 rfl agg3 rfl ?_
              iterate 4 refine cond_yes (beq_self_eq_true _) ?_
              refine H.loadAll 2 rfl agg64 size64 ?_
              refine H.storeAll 1 rfl size64 rfl (fun v hv => rc_one v hv) ?_ 
              clear H 
              intro w33 H
              refine H.loadAll 1 rfl agg64 size64 ?_
              refine ⟨rfl, ?_⟩
              exact .inl ⟨i, hf, by rw [← ei]; rfl, H.keeps⟩
            · have hno' : ∀ j, i ≤ j → slot (ab N) j ≠ some n := fun j hj => by
                rcases Nat.lt_or_ge i j with h | h
                · exact hno j h
                · rw [show j = i by omega, hsl]; intro hh; injection hh with hh; exact hmn hh
              have e11 : Value.int .i64 (fr (ab N) (i + 1) : Int) = .int .i64 (fr (ab N) i : Int) := by rw [hfr]
              have hmn' : ¬ ((m.l : Int) = n.l ∧ (m.lo : Int) = n.lo ∧ (m.hi : Int) = n.hi) := fun ⟨h1, h2, h3⟩ => hmn (by cases m; cases n; simp only [Nd.mk.injEq]; exact ⟨Int.ofNat_inj.1 h1, Int.ofNat_inj.1 h2, Int.ofNat_inj.1 h3⟩)
              refine fieldAddr_by (fa78_3 _) ?_
              refine H.load 0 rfl agg4 rfl ?_
              refine cond_yes rfl ?_
              refine fieldAddr_by (fa78_0 _) ?_
              refine cond_yes rfl ?_
              refine H.load 0 rfl agg3 rfl ?_
              iterate 3 refine cond_yes rfl ?_
              refine cond_beq (fun h16 => ?_) (fun h16 => ?_)
              · refine fieldAddr_by (fa78_1 _) ?_
                refine cond_yes (beq_iff_eq.2 (by assumption)) ?_
                refine H.load 0 rfl agg3 rfl ?_
                iterate 3 refine cond_yes (beq_iff_eq.2 (by assumption)) ?_
                refine cond_beq (fun h24 => ?_) (fun h24 => ?_)
                · refine fieldAddr_by (fa78_2 _) ?_
                  refine cond_yes (beq_iff_eq.2 (by assumption)) ?_
                  refine H.load 0 rfl agg3 rfl ?_
                  iterate 3 refine cond_yes (beq_iff_eq.2 (by assumption)) ?_
                  refine cond_beq (fun h31 => ?_) (fun h31 => ?_)
                  · refine H.loadAll 2 rfl agg64 size64 ?_
                    refine H.storeAll 1 rfl size64 rfl (fun v hv => rc_one v hv) ?_ 
                    clear H 
                    intro w33 H
                    refine H.loadAll 1 rfl agg64 size64 ?_
                    exact absurd ⟨by assumption, by assumption, by assumption⟩ hmn'
                  · refine fieldAddr_by (fa78_3 _) ?_
                    refine H.load 0 rfl agg4 rfl ?_
                    refine cond_no rfl ?_
                    exact ⟨i, Nat.lt_succ_self i, ⟨ed, e11, trivial⟩, ⟨by omega, hno'⟩, H.forget⟩
                · refine cond_no (beq_eq_false_iff_ne.2 (by assumption)) ?_
                  iterate 3 refine cond_no (beq_eq_false_iff_ne.2 (by assumption)) ?_
                  refine cond_no rfl ?_
                  refine fieldAddr_by (fa78_3 _) ?_
                  refine H.load 0 rfl agg4 rfl ?_
                  refine cond_no rfl ?_
                  exact ⟨i, Nat.lt_succ_self i, ⟨ed, e11, trivial⟩, ⟨by omega, hno'⟩, H.forget⟩
              · refine cond_no (beq_eq_false_iff_ne.2 (by assumption)) ?_
                iterate 3 refine cond_no (beq_eq_false_iff_ne.2 (by assumption)) ?_
                iterate 6 refine cond_no rfl ?_
                refine fieldAddr_by (fa78_3 _) ?_
                refine H.load 0 rfl agg4 rfl ?_
                refine cond_no rfl ?_
                exact ⟨i, Nat.lt_succ_self i, ⟨ed, e11, trivial⟩, ⟨by omega, hno'⟩, H.forget⟩
      · rintro ⟨⟩ u w4 ⟨hno, H1⟩
        replace H : Hp _ _ _ _ _ := H1
        clear H1
        refine H.draw fol (by kernel_rfl) ?_
        clear H
        intro w5 H
        refine quiet _ (fun w H => H.loadAll 1 rfl agg64 size64 ⟨rfl, rfl⟩) ?_
        refine call_fn (c71 room N B c _ (by omega) (hs.same H.keeps)) ?_
        rintro _ w6 ⟨rfl, hk⟩
        replace H := H.same hk
        clear hk
        refine ⟨.inl H, ?_⟩
        refine quiet _ (fun w H => fieldAddr_by (fa64_0 _) ⟨rfl, rfl⟩) ?_
        refine quiet _ (fun w H => H.load 1 rfl agg3 rfl ⟨rfl, rfl⟩) ?_
        refine cond_dec (fun h9 => ?_) (fun h9 => ?_)
        · refine H.loadAll 1 rfl agg64 size64 ?_
          refine H.storeAll 0 rfl size64 rfl (fun v hv => rc_one v hv) ?_ 
          clear H 
          intro w7 H
          refine H.loadAll 0 rfl agg64 size64 ?_
          refine ⟨rfl, ?_⟩
          exact .inr (.inl ⟨findA_not hno, h9, rfl, H.keeps⟩)
        · refine cut_rule (γ := Nat × Option Addr × Nat) _ rfl (fun (g, _, _) => [(14, .pointer (some ⟨g, 0, none⟩))])
            (fun (g, A, d) w' => Hp w (fun _ => False) w' [blk g 64 (rc room (.slice A N.length d)), own 78 4 (.slice A N.length d) N.length (flat encN N), blk g2 64 (rv 0 (.slice none 0 0)).cells, blk g1 64 (rc room (.slice B N.length c))] []) ?_ ?_
          · refine draw_orders (fun w' => Hp w (fun _ => False) w' [blk g2 64 (rv 0 (.slice none 0 0)).cells, blk g1 64 (rc room (.slice B N.length c))] [])
              [([2, 5, 7, 8], [0, 1, 2, 3, 4, 5, 6, 7, 8]), ([2, 7, 5, 8], [0, 1, 2, 3, 4, 7, 5, 6, 8]), ([7, 2, 5, 8], [7, 0, 1, 2, 3, 4, 5, 6, 8])] fol (by kernel_rfl) (H.same (Keeps.drew _)) ?_
            replace H := (H.same (Keeps.drew _))
            intro x hx
            simp only [List.mem_cons, List.not_mem_nil, or_false] at hx
            rcases hx with rfl | rfl | rfl
            · refine quiet _ (fun w H => fieldAddr_by (fa64_0 _) ⟨rfl, rfl⟩) ?_
              refine quiet _ (fun w H => H.load 1 rfl agg3 rfl ⟨rfl, rfl⟩) ?_
              refine Hp.buildNil H T62 ?_ 
              clear H 
              intro g7 w7 H 
              refine ⟨.inl H.forget, ?_⟩
              refine quiet _ (fun w H => fieldAddr_by (fa64_1 _) ⟨rfl, rfl⟩) ?_
              refine quiet _ (fun w H => H.load 1 rfl agg62 rfl ⟨rfl, rfl⟩) ?_
              refine Hp.appendCopy H 0 T62 rfl (hs.same H.keeps) (flat_one4 N) (by omega) (by omega) ?_ 
              clear H 
              intro A d w8 H 
              refine ⟨.inl H.forget, ?_⟩
              refine quiet _ (fun w H => build64b ⟨rfl, rfl⟩) ?_
              refine H.alloc 64 zero64 rfl ?_ 
              clear H 
              intro g9 w9 H 
              refine ⟨.inl H.forget.forget, ?_⟩
              refine H.storeAll 0 rfl size64 rfl (fun v hv => rc_one v hv) ?_ 
              clear H 
              intro w10 H 
              refine ⟨.inl H.forget.forget, ?_⟩
              exact ⟨(g9, A, d), ⟨rfl, trivial⟩, H⟩
            · refine quiet _ (fun w H => fieldAddr_by (fa64_0 _) ⟨rfl, rfl⟩) ?_
              refine quiet _ (fun w H => H.load 1 rfl agg3 rfl ⟨rfl, rfl⟩) ?_
              refine Hp.buildNil H T62 ?_ 
              clear H 
              intro g7 w7 H 
              refine ⟨.inl H.forget, ?_⟩
              refine quiet _ (fun w H => fieldAddr_by (fa64_1 _) ⟨rfl, rfl⟩) ?_
              refine quiet _ (fun w H => H.load 1 rfl agg62 rfl ⟨rfl, rfl⟩) ?_
              refine H.alloc 64 zero64 rfl ?_ 
              clear H 
              intro g9 w9 H 
              refine ⟨.inl H.forget.forget, ?_⟩
              refine Hp.appendCopy H 1 T62 rfl (hs.same H.keeps) (flat_one4 N) (by omega) (by omega) ?_ 
              clear H 
              intro A d w8 H 
              refine ⟨.inl H.forget.forget, ?_⟩
              refine quiet _ (fun w H => build64b ⟨rfl, rfl⟩) ?_
              refine H.storeAll 0 rfl size64 rfl (fun v hv => rc_one v hv) ?_ 
              clear H 
              intro w10 H 
              refine ⟨.inl H.forget.forget, ?_⟩
              exact ⟨(g9, A, d), ⟨rfl, trivial⟩, H⟩
            · refine H.alloc 64 zero64 rfl ?_
              clear H
              intro g9 w9 H
              refine ⟨.inl H.forget, ?_⟩
              refine quiet _ (fun w H => fieldAddr_by (fa64_0 _) ⟨rfl, rfl⟩) ?_
              refine quiet _ (fun w H => H.load 1 rfl agg3 rfl ⟨rfl, rfl⟩) ?_
              refine Hp.buildNil H T62 ?_ 
              clear H 
              intro g7 w7 H 
              refine ⟨.inl H.forget.forget, ?_⟩
              refine quiet _ (fun w H => fieldAddr_by (fa64_1 _) ⟨rfl, rfl⟩) ?_
              refine quiet _ (fun w H => H.load 1 rfl agg62 rfl ⟨rfl, rfl⟩) ?_
              refine Hp.appendCopy H 0 T62 rfl (hs.same H.keeps) (flat_one4 N) (by omega) (by omega) ?_ 
              clear H 
              intro A d w8 H 
              refine ⟨.inl H.forget.forget, ?_⟩
              refine quiet _ (fun w H => build64b ⟨rfl, rfl⟩) ?_
              refine H.storeAll 1 rfl size64 rfl (fun v hv => rc_one v hv) ?_ 
              clear H 
              intro w10 H 
              refine ⟨.inl H.forget.forget, ?_⟩
              exact ⟨(g9, A, d), ⟨rfl, trivial⟩, H.front 1 rfl⟩
          · clear H
            rintro ⟨g3, A, d⟩ u w8 H
            replace H : Hp _ _ _ _ _ := H
            have hfl := freeA_le (ab N)
            rw [ab_length] at hfl
            refine cut_rule (γ := List RN × Option Addr × Nat) _ rfl (fun _ => [])
              (fun (N1, A, d) w' => (freeA (ab N) < N1.length ∧ ab (N1.set (freeA (ab N)) (n, false)) = putA (ab N) n) ∧ Hp w (fun _ => False) w' [blk g3 64 (rc room (.slice A N1.length d)), own 78 4 (.slice A N1.length d) N1.length (flat encN N1), blk g2 64 (rv 0 (.slice none 0 0)).cells, blk g1 64 (rc room (.slice B N.length c))] []) ?_ ?_
            · refine fieldAddr_by (fa64_1 _) ?_
              refine H.load 0 rfl agg62 rfl ?_
              refine len_sl Try.underlying62 ?_
              refine cond_beq (fun h12 => ?_) (fun h12 => ?_)
              · have h12 : freeA (ab N) = N.length := by omega
                refine fieldAddr_by (fa64_1 _) ?_
                refine H.load 0 rfl agg62 rfl ?_
                refine build78z ?_
                refine H.buildSl T62 (cs := (encN (⟨0, 0, 0⟩, false)).toArray) (by decide) (by decide) (by kernel_rfl) ?_
                clear H
                intro g5 w9 H
                refine H.appendBlk 2 0 T62 rfl rfl rfl (encN_one _) (by omega) (by omega) ?_
                clear H
                intro A1 d1 w10 H
                refine fieldAddr_by (fa64_1 _) ?_
                refine H.store 1 rfl size62 (by show 1 < 2; decide) rfl ?_
                clear H
                intro w11 H
                have hli : (N ++ [((⟨0, 0, 0⟩ : Nd), false)]).length = N.length + 1 := by simp
                exact ⟨(N ++ [(⟨0, 0, 0⟩, false)], A1, d1), trivial, ⟨by rw [hli]; omega, put_snoc h12⟩, by rw [hli, flat_snoc]; exact H.forget⟩
              · have h12 : freeA (ab N) ≠ N.length := by omega
                exact ⟨(N, A, d), trivial, ⟨by omega, put_set h12⟩, H⟩
            · clear H
              rintro ⟨N1, A, d⟩ u w9 ⟨⟨hf, hput⟩, H⟩
              obtain ⟨g6, rfl⟩ := H.ownA 1 rfl (by omega)
              have hfw : IntKind.i64.wrap ((freeA (ab N) : Int) + 2) = ((freeA (ab N) + 2 : Nat) : Int) := wlen2 (by omega)
              refine fieldAddr_by (fa64_1 _) ?_
              refine H.load 0 rfl agg62 rfl ?_
              refine build78 ?_
              refine idxAddr_sl Try.underlying62 (s := 4) size78 _ rfl hf (o' := freeA (ab N) * 4) (by omega) ?_
              refine H.storeOwnAgg 1 (n, false) rfl encN_length size78 _ rfl hf rfl (encN_one _) ?_
              clear H
              intro w12 H
              have hln : (N1.set (freeA (ab N)) (n, false)).length = N1.length := List.length_set ..
              refine H.loadAll 0 rfl agg64 size64 ?_
              refine H.storeAll 2 rfl size64 rfl (fun v hv => rc_one v hv) ?_ 
              clear H 
              intro w10 H
              refine H.loadAll 2 rfl agg64 size64 ?_
              refine ⟨rfl, ?_⟩
              exact .inr (.inr ⟨findA_not hno, by omega, N1.set (freeA (ab N)) (n, false), _, d, hput, by rw [← hfw, hln]; rfl, by rw [hln]; exact H.outAt 1 rfl⟩)
/-- Make of the reference: what mkA says. -/
theorem c69 (room : Int) (N : List RN) (B : Option Addr) (c : Nat) (l lo hi : Int) (w : World) (hl : N.length ≤ 100000) (hs : Sl w (.slice B N.length c) 4 N.length (flat encN N)) (hinv : ArInv (ab N)) :
    Fun Try.prog 69 [rv room (.slice B N.length c), .int .i64 l, .int .i64 lo, .int .i64 hi] w fun v w' =>
      ∃ N' B' c', ab N' = (mkA room (ab N) l lo hi).1 ∧ v = .tuple #[rv room (.slice B' N'.length c'), .int .i64 (mkA room (ab N) l lo hi).2.1, .int .i64 (mkA room (ab N) l lo hi).2.2] ∧
        ((N' = N ∧ B' = B ∧ c' = c ∧ Same w w') ∨ NewR w w' (own 78 4 (.slice B' N'.length c') N'.length (flat encN N'))) := by
  have h1 := lvlA_le hinv lo
  by_cases hb : l < 0 ∨ lvlA (ab N) lo ≤ l ∨ lvlA (ab N) hi ≤ l
  · refine (c69_b room N B c l lo hi (by omega) w (by omega) hs).mono ?_
    rintro v w' ⟨rfl, hk⟩
    unfold mkA
    rw [if_pos hb]
    exact ⟨N, B, c, rfl, rfl, .inl ⟨rfl, rfl, rfl, hk⟩⟩
  · have g1 : 0 ≤ lo := by
      rcases lvlA_node (A := ab N) (id := lo) (by omega) with rfl | rfl | ⟨i, n, rfl, _⟩ <;> omega
    have g2 : 0 ≤ hi := by
      rcases lvlA_node (A := ab N) (id := hi) (by omega) with rfl | rfl | ⟨i, n, rfl, _⟩ <;> omega
    have e : mkA room (ab N) l lo hi = (match findA (ab N) ⟨l.toNat, lo.toNat, hi.toNat⟩ with
      | some i => (ab N, ((i + 2 : Nat) : Int), 0)
      | none => if room ≤ (liveA (ab N) : Int) then (ab N, 0, 5) else (putA (ab N) ⟨l.toNat, lo.toNat, hi.toNat⟩, ((freeA (ab N) + 2 : Nat) : Int), 0)) := by
      unfold mkA; rw [if_neg hb]; rfl
    rw [e]
    have hg := c69_g room N B c ⟨l.toNat, lo.toNat, hi.toNat⟩ w hl hs hinv.uniq (by show ((l.toNat : Nat) : Int) ≤ 23; omega)
      (by show ((l.toNat : Nat) : Int) < lvlA (ab N) ((lo.toNat : Nat) : Int); rw [Int.toNat_of_nonneg g1]; omega)
      (by show ((l.toNat : Nat) : Int) < lvlA (ab N) ((hi.toNat : Nat) : Int); rw [Int.toNat_of_nonneg g2]; omega)
    have e1 : ((l.toNat : Nat) : Int) = l := Int.toNat_of_nonneg (by omega)
    have e2 : ((lo.toNat : Nat) : Int) = lo := Int.toNat_of_nonneg g1
    have e3 : ((hi.toNat : Nat) : Int) = hi := Int.toNat_of_nonneg g2
    simp only [e1, e2, e3] at hg
    refine hg.mono ?_
    rintro v w' (⟨i, hf, rfl, hk⟩ | ⟨hf, hr, rfl, hk⟩ | ⟨hf, hr, N', B', c', hp, rfl, hn⟩)
    · rw [hf]; exact ⟨N, B, c, rfl, rfl, .inl ⟨rfl, rfl, rfl, hk⟩⟩
    · rw [hf]; simp only [if_pos hr]; exact ⟨N, B, c, rfl, rfl, .inl ⟨rfl, rfl, rfl, hk⟩⟩
    · rw [hf]; simp only [if_neg (show ¬ room ≤ (liveA (ab N) : Int) by omega)]; exact ⟨N', B', c', hp, rfl, .inr hn⟩
end Go.Proofs.Ytjebpngdinbckaa
end

section
/- Marking until nothing is added: plain lemmas. -/
namespace Go.Dk

/-- A mark set, but for the ends. -/
def umk (M : List Bool) (j : Nat) : List Bool := M.set j (mb M j || decide (1 < j))
theorem umk_length (M : List Bool) (j : Nat) : (umk M j).length = M.length := List.length_set ..
theorem mb_get {M : List Bool} {j : Nat} (h : j < M.length) : M[j]? = some (mb M j) := by
  unfold mb; rw [List.getD_eq_getElem?_getD, List.getElem?_eq_getElem h]; rfl
theorem mb_put {M : List Bool} {j : Nat} (hj : j < M.length) (b : Bool) (i : Nat) : mb (M.set j b) i = if i = j then b else mb M i := by
  unfold mb
  rw [List.getD_eq_getElem?_getD, List.getD_eq_getElem?_getD, List.getElem?_set]
  by_cases h : j = i
  · subst h; simp [hj]
  · simp [h, Ne.symm h]
theorem mb_umk {M : List Bool} {j : Nat} (hj : j < M.length) (i : Nat) : mb (umk M j) i = (mb M i || (decide (i = j) && decide (1 < j))) := by
  unfold umk
  rw [mb_put hj]
  by_cases h : i = j
  · subst h; simp
  · simp [h]
theorem put_same {M : List Bool} {j : Nat} (hj : j < M.length) : M.set j (mb M j) = M := by
  apply List.ext_getElem?
  intro i
  rw [List.getElem?_set]
  by_cases h : j = i
  · subst h; simp only [if_true]; rw [if_pos hj, mb_get hj]
  · rw [if_neg h]
theorem umk_same {M : List Bool} {j : Nat} (hj : j < M.length) (h : 1 < j → mb M j = true) : umk M j = M := by
  unfold umk
  by_cases h1 : 1 < j
  · rw [h h1]
    have := put_same hj
    rw [h h1] at this
    simpa using this
  · rw [decide_eq_false h1, Bool.or_false]; exact put_same hj
def cntMk (M : List Bool) : Nat := M.countP id
theorem cntMk_le (M : List Bool) : cntMk M ≤ M.length := List.countP_le_length
theorem cntMk_put {M : List Bool} {j : Nat} (hj : j < M.length) (b : Bool) : cntMk (M.set j b) + (if mb M j then 1 else 0) = cntMk M + (if b then 1 else 0) := by
  unfold cntMk
  have hm : M[j] = mb M j := by have := mb_get hj; rw [List.getElem?_eq_getElem hj] at this; injection this
  have h := List.countP_set (p := id) (l := M) (i := j) (a := b) hj
  rw [h, hm]
  have hpos : (if mb M j = true then 1 else 0) ≤ List.countP id M := by
    split
    · rename_i hh
      exact List.countP_pos_iff.2 ⟨M[j], List.getElem_mem hj, by rw [hm, hh]; rfl⟩
    · omega
  simp only [id]
  omega
theorem cntMk_umk {M : List Bool} {j : Nat} (hj : j < M.length) : cntMk (umk M j) = cntMk M + if 1 < j ∧ mb M j = false then 1 else 0 := by
  have h := cntMk_put hj (mb M j || decide (1 < j))
  unfold umk
  cases hm : mb M j <;> by_cases h1 : 1 < j <;> simp [hm, h1] at h ⊢ <;> omega
/-- All that is marked is come to. -/
def Sou (A : Ar) (ks : List Int) (M : List Bool) : Prop := ∀ j, mb M j = true → ∃ x, j = x + 2 ∧ ∃ k ∈ ks, Rch A k x
/-- The nodes that are kept are marked. -/
def Roo (A : Ar) (ks : List Int) (M : List Bool) : Prop := ∀ k ∈ ks, 2 ≤ k → 0 ≤ lvlA A k → mb M k.toNat = true
/-- What hangs on a marked node below p is marked. -/
def Cls (A : Ar) (M : List Bool) (p : Nat) : Prop := ∀ x n, x + 2 < p → slot A x = some n → mb M (x + 2) = true → (1 < n.lo → mb M n.lo = true) ∧ (1 < n.hi → mb M n.hi = true)
structure RI (A : Ar) (ks : List Int) (M0 : List Bool) (p : Nat) (M : List Bool) (more : Bool) : Prop where
  len : M.length = A.length + 2
  sou : Sou A ks M
  roo : Roo A ks M
  no : more = false → M = M0 ∧ Cls A M p
  yes : more = true → cntMk M0 < cntMk M
theorem RI.start {A : Ar} {ks : List Int} {M : List Bool} (h1 : M.length = A.length + 2) (h2 : Sou A ks M) (h3 : Roo A ks M) : RI A ks M 2 M false :=
  ⟨h1, h2, h3, fun _ => ⟨rfl, fun x n hx => by omega⟩, fun h => by cases h⟩
theorem RI.skip {A : Ar} {ks : List Int} {M0 M : List Bool} {p : Nat} {more : Bool} (h : RI A ks M0 p M more) (hp : mb M p = false) : RI A ks M0 (p + 1) M more :=
  ⟨h.len, h.sou, h.roo, fun hm => ⟨(h.no hm).1, fun x n hx hs hb => by
    by_cases hxp : x + 2 = p
    · rw [hxp] at hb; rw [hp] at hb; cases hb
    · exact (h.no hm).2 x n (by omega) hs hb⟩, h.yes⟩
theorem RI.step {A : Ar} {ks : List Int} {M0 M : List Bool} {more : Bool} {x : Nat} {n : Nd} (hA : ArInv A) (h : RI A ks M0 (x + 2) M more) (hp : mb M (x + 2) = true) (hs : slot A x = some n) :
    RI A ks M0 (x + 3) (umk (umk M n.lo) n.hi) ((more || (decide (1 < n.lo) && !mb M n.lo)) || (decide (1 < n.hi) && !mb M n.hi)) := by
  have hv := hA.lev x n hs
  have hlo : n.lo < M.length := by
    rw [h.len]
    rcases lvlA_node (A := A) (id := n.lo) (by omega) with e | e | ⟨i, m, e, hi, _⟩
    · omega
    · omega
    · have := slot_lt hi; omega
  have hhi : n.hi < M.length := by
    rw [h.len]
    rcases lvlA_node (A := A) (id := n.hi) (by omega) with e | e | ⟨i, m, e, hi, _⟩
    · omega
    · omega
    · have := slot_lt hi; omega
  have hhi' : n.hi < (umk M n.lo).length := by rw [umk_length]; exact hhi
  have c1 := cntMk_umk hlo
  have c2 := cntMk_umk hhi'
  have hm : ∀ i, mb (umk (umk M n.lo) n.hi) i = ((mb M i || (decide (i = n.lo) && decide (1 < n.lo))) || (decide (i = n.hi) && decide (1 < n.hi))) := fun i => by rw [mb_umk hhi', mb_umk hlo]
  obtain ⟨x', hx', k, hk, hr⟩ := h.sou _ hp
  have hxx : x' = x := by omega
  subst hxx
  refine ⟨by rw [umk_length, umk_length]; exact h.len, fun j hj => ?_, fun k hk h2 h3 => ?_, fun hf => ?_, fun ht => ?_⟩
  · rw [hm, Bool.or_eq_true, Bool.or_eq_true] at hj
    rcases hj with (hj | hj) | hj
    · exact h.sou j hj
    · simp at hj
      obtain ⟨rfl, h1⟩ := hj
      rcases lvlA_node (A := A) (id := n.lo) (by omega) with e | e | ⟨i, m, e, hi, _⟩
      · omega
      · omega
      · exact ⟨i, by omega, k, hk, hr.trans (.lo hs (by rw [e]; exact .self hi))⟩
    · simp at hj
      obtain ⟨rfl, h1⟩ := hj
      rcases lvlA_node (A := A) (id := n.hi) (by omega) with e | e | ⟨i, m, e, hi, _⟩
      · omega
      · omega
      · exact ⟨i, by omega, k, hk, hr.trans (.hi hs (by rw [e]; exact .self hi))⟩
  · rw [hm, h.roo k hk h2 h3]; rfl
  · simp only [Bool.or_eq_false_iff, Bool.and_eq_false_iff, decide_eq_false_iff_not, Bool.not_eq_false'] at hf
    obtain ⟨⟨hmo, h1⟩, h2⟩ := hf
    have e1 : umk M n.lo = M := umk_same hlo fun hh => by rcases h1 with h | h; · exact absurd hh h
                                                          · exact h
    have e2 : umk M n.hi = M := umk_same hhi fun hh => by rcases h2 with h | h; · exact absurd hh h
                                                          · exact h
    rw [e1, e2]
    obtain ⟨q1, q2⟩ := h.no hmo
    refine ⟨q1, fun y m hy hsy hb => ?_⟩
    by_cases hyx : y = x'
    · subst hyx
      rw [hs] at hsy
      injection hsy with hsy
      subst hsy
      exact ⟨fun hh => by rcases h1 with h | h; · exact absurd hh h
                          · exact h, fun hh => by rcases h2 with h | h; · exact absurd hh h
                                                  · exact h⟩
    · exact q2 y m (by omega) hsy hb
  · have hge : cntMk M0 ≤ cntMk M := by
      cases hmo : more with
      | false => rw [(h.no hmo).1]; exact Nat.le_refl _
      | true => have := h.yes hmo; omega
    simp only [Bool.or_eq_true, Bool.and_eq_true, decide_eq_true_eq, Bool.not_eq_true'] at ht
    rcases ht with (ht | ht) | ht
    · have := h.yes ht; omega
    · rw [if_pos ht] at c1; omega
    · by_cases hq : 1 < n.lo ∧ mb M n.lo = false
      · rw [if_pos hq] at c1; omega
      · have : mb (umk M n.lo) n.hi = false := by
          rw [mb_umk hlo, ht.2, Bool.false_or, Bool.and_eq_false_iff]
          by_cases he : n.hi = n.lo
          · rw [he] at ht; exact absurd ht hq
          · left; simp [he]
        rw [if_pos ⟨ht.1, this⟩] at c2; omega
theorem cls_rch {A : Ar} {M : List Bool} (hc : ∀ x n, slot A x = some n → mb M (x + 2) = true → (1 < n.lo → mb M n.lo = true) ∧ (1 < n.hi → mb M n.hi = true)) :
    ∀ {id : Int} {x : Nat}, Rch A id x → mb M id.toNat = true → mb M (x + 2) = true := by
  intro id x h
  induction h with
  | self hs => intro hm; exact hm
  | @lo i y n hs hr ih =>
    intro hm
    have hm' : mb M (i + 2) = true := hm
    have hst := hr.start
    obtain ⟨j, m, e, _⟩ := hst
    exact ih ((hc i n hs hm').1 (by omega))
  | @hi i y n hs hr ih =>
    intro hm
    have hm' : mb M (i + 2) = true := hm
    have hst := hr.start
    obtain ⟨j, m, e, _⟩ := hst
    exact ih ((hc i n hs hm').2 (by omega))
theorem RI.done {A : Ar} {ks : List Int} {M : List Bool} (h2 : Sou A ks M) (h3 : Roo A ks M) (hc : Cls A M (A.length + 2)) (x : Nat) : mb M (x + 2) = true ↔ ∃ k ∈ ks, Rch A k x := by
  constructor
  · intro h
    obtain ⟨y, e, hy⟩ := h2 _ h
    have : y = x := by omega
    subst this; exact hy
  · rintro ⟨k, hk, hr⟩
    obtain ⟨i, n, e, hs⟩ := hr.start
    refine cls_rch (fun x n hs => hc x n (by have := slot_lt hs; omega) hs) hr (h3 k hk (by omega) ?_)
    rw [e, lvlA_slot hs]; omega
end Go.Dk

namespace Go.Proofs.Ytjebpngdinbckaa
open Go.Dk
attribute [local irreducible] IntKind.wrap
theorem bls_mb {M : List Bool} {j : Nat} (h : j < M.length) : (bls M)[j]? = some (.bool (mb M j)) := bls_getD h
theorem roo_take {A : Ar} {ks : List Int} {M : List Bool} {i : Nat} {k : Int} (h : Roo A (ks.take i) M) (hk : ks[i]? = some k) (h2 : 2 ≤ k → 0 ≤ lvlA A k → mb M k.toNat = true) : Roo A (ks.take (i + 1)) M := by
  intro k' hk' h3 h4
  rw [List.take_add_one, hk] at hk'
  rcases List.mem_append.1 hk' with h' | h'
  · exact h k' h' h3 h4
  · simp at h'; subst h'; exact h2 h3 h4
theorem sou_nil (A : Ar) (ks : List Int) (n : Nat) : Sou A ks (List.replicate n false) := by
  intro j hj; rw [mb_replicate] at hj; cases hj
theorem roo_nil (A : Ar) (M : List Bool) : Roo A [] M := by
  intro k hk; cases hk
theorem sou_put {A : Ar} {ks : List Int} {M : List Bool} (h : Sou A ks M) {j : Nat} (hj : j < M.length) (h2 : 2 ≤ j) (hk : (j : Int) ∈ ks) (hv : 0 ≤ lvlA A j) : Sou A ks (M.set j true) := by
  intro i hi
  rw [mb_put hj] at hi
  split at hi
  · rename_i e
    subst e
    rcases lvlA_node hv with e | e | ⟨x, n, e, hs, _⟩
    · omega
    · omega
    · exact ⟨x, by omega, _, hk, by rw [e]; exact .self hs⟩
  · exact h i hi
theorem roo_put {A : Ar} {ks : List Int} {M : List Bool} (h : Roo A ks M) {j : Nat} (hj : j < M.length) : Roo A ks (M.set j true) := by
  intro k hk h2 h3
  rw [mb_put hj, h k hk h2 h3]; simp
theorem umk_t {M : List Bool} {j : Nat} (h : mb M j = true) : umk M j = M.set j true := by unfold umk; rw [h]; rfl
theorem umk_f {M : List Bool} {j : Nat} (h : mb M j = false) : umk M j = M.set j (decide ((j : Int) > 1)) := by
  unfold umk; rw [h, Bool.false_or]; congr 1; exact decide_eq_decide.2 (by omega)
theorem ent73 : enters Try.prog 73 = true := by kernel_rfl
theorem c73 (room : Int) (N : List RN) (B : Option Addr) (c : Nat) (ks : List Int) (Bk : Option Addr) (ck : Nat) (w : World) (hl : N.length ≤ 100000) (hkl : ks.length ≤ 100000) (hs : Sl w (.slice B N.length c) 4 N.length (flat encN N))
    (hsk : Sl w (.slice Bk ks.length ck) 1 ks.length (intsI ks)) (hA : ArInv (ab N)) :
    Fun Try.prog 73 [rv room (.slice B N.length c), .slice Bk ks.length ck] w fun v w' =>
      ∃ g M, v = .slice (some ⟨g, 0, none⟩) (N.length + 2) (N.length + 2) ∧ M.length = N.length + 2 ∧ (∀ x, mb M (x + 2) = true ↔ ∃ k ∈ ks, Rch (ab N) k x) ∧
        NewR w w' (own 4 1 (.slice (some ⟨g, 0, none⟩) (N.length + 2) (N.length + 2)) (N.length + 2) (bls M)) := by
  refine fun_of_W (N := 114) Try.func73 ent73 rfl rfl rfl (by simp) ?_
  have H := Hp.start0 w
  refine H.box 64 (rv _ _) (cs := rc _ _) rfl ?_
  clear H
  intro g1 w1 H
  refine cut_rule (γ := Nat) _ rfl (fun g => [(5, .slice (some ⟨g, 0, none⟩) (N.length + 2) (N.length + 2))])
    (fun g w' => Hp w (fun _ => False) w' [own 4 1 (.slice (some ⟨g, 0, none⟩) (N.length + 2) (N.length + 2)) (N.length + 2) (bls (List.replicate (N.length + 2) false)), blk g1 64 (rc room (.slice B N.length c))] []) ?_ ?_
  · refine fieldAddr_by (fa64_1 _) ?_
    refine H.load 0 rfl agg62 rfl ?_
    refine len_sl Try.underlying62 ?_
    refine H.make T29 (N.length + 2) (wlen2 (by omega)) (wlen2 (by omega)) (by omega) (by omega) ?_
    clear H
    intro g2 w2 H
    rw [madeBool, show List.replicate (N.length + 2) (Value.bool false) = bls (List.replicate (N.length + 2) false) from List.map_replicate.symm] at H
    exact ⟨g2, ⟨rfl, trivial⟩, H⟩
  · clear H
    rintro g2 u w2 H
    replace H : Hp _ _ _ _ _ := H
    refine cut_rule (γ := List Bool) _ rfl (fun _ => [])
      (fun M w' => (M.length = N.length + 2 ∧ Sou (ab N) ks M ∧ Roo (ab N) ks M) ∧ Hp w (fun _ => False) w' [own 4 1 (.slice (some ⟨g2, 0, none⟩) (N.length + 2) (N.length + 2)) (N.length + 2) (bls M), blk g1 64 (rc room (.slice B N.length c))] []) ?_ ?_
    · refine loop_rule (γ := Nat × List Bool) _ rfl (fun (i, _) => [(6, .int .i64 (i : Int))])
        (fun (i, M) w' => (i ≤ ks.length ∧ M.length = N.length + 2 ∧ Sou (ab N) ks M ∧ Roo (ab N) (ks.take i) M) ∧ Hp w (fun _ => False) w' [own 4 1 (.slice (some ⟨g2, 0, none⟩) (N.length + 2) (N.length + 2)) (N.length + 2) (bls M), blk g1 64 (rc room (.slice B N.length c))] [])
        (fun (i, _) => ks.length - i) (0, List.replicate (N.length + 2) false) ⟨rfl, trivial⟩ ⟨⟨Nat.zero_le _, List.length_replicate, sou_nil _ _ _, roo_nil _ _⟩, H⟩ ?_
      clear H
      rintro ⟨i, M⟩ u w3 ⟨⟨hi, hM, hS, hR⟩, H⟩
      refine len_sl Try.underlying32 ?_
      refine cond_dec (fun h7 => ?_) (fun h7 => ?_)
      · obtain ⟨k, hk⟩ : ∃ k, ks[i]? = some k := ⟨_, List.getElem?_eq_getElem (by omega)⟩
        have hkm := List.mem_of_getElem? hk
        obtain ⟨g4, o4, rfl⟩ := hsk.A (by omega)
        have hget : (intsI ks)[i]? = some (.int .i64 k) := by rw [intsI, List.getElem?_map, hk]; rfl
        refine cut_rule (γ := List Bool) _ rfl (fun _ => []) (fun M w' => (M.length = N.length + 2 ∧ Sou (ab N) ks M ∧ Roo (ab N) (ks.take (i + 1)) M) ∧ Hp w (fun _ => False) w' [own 4 1 (.slice (some ⟨g2, 0, none⟩) (N.length + 2) (N.length + 2)) (N.length + 2) (bls M), blk g1 64 (rc room (.slice B N.length c))] []) ?_ ?_
        · refine H.draw fol (by kernel_rfl) ?_
          clear H
          intro w5 H
          refine quiet _ (fun w H => idxAddr_sl Try.underlying32 (s := 1) (by kernel_rfl) _ rfl (by first | omega | decide | (simp only [IntKind.wrap_i64]; omega) | (rw [bls, List.length_map]; omega) | (rw [bytesV_length]; omega) | (rw [ints_length]; omega) | (simp; done) | (simp; omega)) (o' := _) (by rw [Nat.mul_one]) ⟨rfl, rfl⟩) ?_
          refine quiet _ (fun w H => H.loadSl (i := i) hsk agg3 _ rfl hget ⟨rfl, rfl⟩) ?_
          refine cond_dec (fun h8 => ?_) (fun h8 => ?_)
          · refine quiet _ (fun w H => H.loadAll 1 rfl agg64 size64 ⟨rfl, rfl⟩) ?_
            iterate 3 refine cond_yes (decide_eq_true (by assumption)) ?_
            refine quiet _ (fun w H => idxAddr_sl Try.underlying32 (s := 1) (by kernel_rfl) _ rfl (by first | omega | decide | (simp only [IntKind.wrap_i64]; omega) | (rw [bls, List.length_map]; omega) | (rw [bytesV_length]; omega) | (rw [ints_length]; omega) | (simp; done) | (simp; omega)) (o' := _) (by rw [Nat.mul_one]) ⟨rfl, rfl⟩) ?_
            refine cond_yes (decide_eq_true (by assumption)) ?_
            refine quiet _ (fun w H => H.loadSl (i := i) hsk agg3 _ rfl hget ⟨rfl, rfl⟩) ?_
            refine cond_yes (decide_eq_true (by assumption)) ?_
            refine call_fn (c167 room N _ c k _ (by omega) (hs.same H.keeps)) ?_ 
            rintro _ w17 ⟨rfl, hk17⟩ 
            replace H := H.same hk17 
            refine ⟨.inl H, ?_⟩
            iterate 2 refine cond_yes (decide_eq_true (by assumption)) ?_
            refine cond_dec (fun h20 => ?_) (fun h20 => ?_)
            · refine idxAddr_sl Try.underlying32 (s := 1) size3 i rfl (by omega) (o' := o4 + i) (by omega) ?_
              refine H.loadSl (i := i) hsk agg3 _ rfl hget ?_
              obtain ⟨j, rfl⟩ : ∃ j : Nat, k = (j : Int) := ⟨k.toNat, by omega⟩
              have hjl := lvlA_range (A := ab N) (id := (j : Int)) (by omega)
              rw [ab_length] at hjl
              refine idxAddr_sl Try.underlying29 (s := 1) size4 j rfl (by omega) (o' := j) (by omega) ?_
              refine H.storeOwn 0 rfl size4 (by rw [bls, List.length_map, hM]; omega) rfl ?_
              clear H
              intro w21 H
              rw [← bls_set] at H
              exact ⟨M.set j true, trivial, ⟨by rw [List.length_set]; exact hM, sou_put hS (by omega) (by omega) hkm (by omega), roo_take (roo_put hR (by omega)) hk fun _ _ => by rw [mb_put (by omega), if_pos (Int.toNat_natCast j)]⟩, H⟩
            · exact ⟨M, trivial, ⟨hM, hS, roo_take hR hk fun _ h => absurd h h20⟩, H⟩
          · refine cond_no (decide_eq_false (by assumption)) ?_
            iterate 6 refine cond_no (decide_eq_false (by assumption)) ?_
            refine cond_no rfl ?_
            exact ⟨M, trivial, ⟨hM, hS, roo_take hR hk fun h _ => absurd h h8⟩, H⟩
        · clear H
          rintro M1 u w4 ⟨⟨hM, hS, hR⟩, H⟩
          replace H : Hp _ _ _ _ _ := H
          exact ⟨(i + 1, M1), by show ks.length - (i + 1) < ks.length - i; omega, ⟨up (by omega), trivial⟩, ⟨by show i + 1 ≤ _; omega, hM, hS, hR⟩, H⟩
      · have : i = ks.length := by omega
        subst this
        rw [List.take_length] at hR
        exact ⟨M, trivial, ⟨hM, hS, hR⟩, H⟩
    · clear H
      rintro M u w3 ⟨⟨hM, hS, hR⟩, H⟩
      replace H : Hp _ _ _ _ _ := H
      refine cut_rule (γ := Unit) _ rfl (fun _ => [(7, .bool true)]) (fun _ w' => Hp.cl H w') ⟨(), ⟨rfl, trivial⟩, H⟩ ?_
      rintro ⟨⟩ u1 w4 H1
      replace H : Hp _ _ _ _ _ := H1
      clear H1
      refine cut_rule (γ := List Bool) _ rfl (fun _ => []) (fun M w' => (M.length = N.length + 2 ∧ Sou (ab N) ks M ∧ Roo (ab N) ks M ∧ Cls (ab N) M ((ab N).length + 2)) ∧ Hp w (fun _ => False) w' [own 4 1 (.slice (some ⟨g2, 0, none⟩) (N.length + 2) (N.length + 2)) (N.length + 2) (bls M), blk g1 64 (rc room (.slice B N.length c))] []) ?_ ?_
      · refine loop_rule (γ := Bool × List Bool) _ rfl (fun (more, _) => [(7, .bool more)])
          (fun (more, M) w' => (M.length = N.length + 2 ∧ Sou (ab N) ks M ∧ Roo (ab N) ks M ∧ (more = false → Cls (ab N) M ((ab N).length + 2))) ∧ Hp w (fun _ => False) w' [own 4 1 (.slice (some ⟨g2, 0, none⟩) (N.length + 2) (N.length + 2)) (N.length + 2) (bls M), blk g1 64 (rc room (.slice B N.length c))] [])
          (fun (more, M) => if more then N.length + 3 - cntMk M else 0) (true, M) ⟨rfl, trivial⟩ ⟨⟨hM, hS, hR, fun h => by cases h⟩, H⟩ ?_
        clear H hM hS hR
        rintro ⟨more, M0⟩ u w5 ⟨⟨hM, hS, hR, hC⟩, H⟩
        replace H : Hp _ _ _ _ _ := H
        cases more with
        | false => refine cond_no rfl ?_
                   exact ⟨M0, trivial, ⟨hM, hS, hR, hC rfl⟩, H⟩
        | true =>
          refine cond_yes rfl ?_
          refine cut_rule (γ := Unit) _ rfl (fun _ => [(7, .bool false)]) (fun _ w' => Hp.cl H w') ⟨(), ⟨rfl, trivial⟩, H⟩ ?_
          rintro ⟨⟩ u1 w6 H1
          replace H : Hp _ _ _ _ _ := H1
          clear H1
          refine loop_rule (γ := Nat × List Bool × Bool) _ rfl (fun (p, _, more) => [(8, .int .i64 (p : Int)), (7, .bool more)])
            (fun (p, M, more) w' => (2 ≤ p ∧ p ≤ N.length + 2 ∧ RI (ab N) ks M0 p M more) ∧ Hp w (fun _ => False) w' [own 4 1 (.slice (some ⟨g2, 0, none⟩) (N.length + 2) (N.length + 2)) (N.length + 2) (bls M), blk g1 64 (rc room (.slice B N.length c))] [])
            (fun (p, _, _) => N.length + 2 - p) (2, M0, false) ⟨rfl, rfl, trivial⟩ ⟨⟨Nat.le_refl _, by show 2 ≤ N.length + 2; omega, .start (by rw [ab_length]; exact hM) hS hR⟩, H⟩ ?_
          clear H
          rintro ⟨p, M, more⟩ u w7 ⟨⟨h2p, hp, hI⟩, H⟩
          replace H : Hp _ _ _ _ _ := H
          have hMl : M.length = N.length + 2 := by rw [hI.len, ab_length]
          refine len_sl Try.underlying29 ?_
          refine cond_dec (fun h7 => ?_) (fun h7 => ?_)
          · have hp' : p < N.length + 2 := by omega
            refine idxAddr_sl Try.underlying29 (s := 1) size4 p rfl hp' (o' := p) (by omega) ?_
            refine H.loadOwn 0 rfl agg4 (bls_mb (by omega)) ?_
            refine cond_split (fun hpm => ?_) (fun hpm => ?_)
            · obtain ⟨x, rfl, k, hk, hr⟩ := hI.sou p hpm
              obtain ⟨n, hsx⟩ := hr.slot
              obtain ⟨⟨m, d⟩, hx⟩ : ∃ y, N[x]? = some y := ⟨_, List.getElem?_eq_getElem (by omega)⟩
              have hd : d = false ∧ m = n := by
                have := slot_ab hx
                rw [hsx] at this
                cases d
                · simp at this; exact ⟨rfl, this.symm⟩
                · simp at this
              obtain ⟨rfl, rfl⟩ := hd
              have hv := hA.lev x m hsx
              have hlo := lvlA_range (A := ab N) (id := m.lo) (by omega)
              have hhi := lvlA_range (A := ab N) (id := m.hi) (by omega)
              rw [ab_length] at hlo hhi
              have hst := hI.step hA hpm hsx
              obtain ⟨g0, o0, rfl⟩ := hs.A (by omega)
              refine cut_rule (γ := Nat) _ rfl (fun g9 => [(9, .pointer (some ⟨g9, 0, none⟩))]) (fun g9 w' => Hp w (fun _ => False) w' [blk g9 78 (encN (m, false)).toArray, own 4 1 (.slice (some ⟨g2, 0, none⟩) (N.length + 2) (N.length + 2)) (N.length + 2) (bls M), blk g1 64 (rc room (.slice (some ⟨g0, o0, none⟩) N.length c))] []) ?_ ?_
              · refine fieldAddr_by (fa64_1 _) ?_
                refine H.load 1 rfl agg62 rfl ?_
                refine idxAddr_sl Try.underlying62 (s := 4) size78 x (wsub2 (i := x) (by omega)) (by omega) (o' := o0 + x * 4) rfl ?_
                refine Sl.loadAgg H hs encN_length agg78 size78 x rfl hx ?_
                refine H.alloc 78 zero78 rfl ?_
                clear H
                intro g9 w8 H
                refine H.storeAll 0 rfl size78 rfl (fun v hv => encN_one (m, false) v hv) ?_
                clear H
                intro w9 H
                exact ⟨g9, ⟨rfl, trivial⟩, H⟩
              · clear H
                rintro g9 u w8 H
                replace H : Hp _ _ _ _ _ := H
                have hlo' : m.lo < M.length := by omega
                have hhi' : m.hi < M.length := by omega
                refine cut_rule (γ := Unit) _ rfl (fun _ => [(7, .bool ((more || (decide (1 < m.lo) && !mb M m.lo)) || (decide (1 < m.hi) && !mb M m.hi)))]) (fun _ w' => Hp.cl H w') ?_ ?_
                · refine cond_split (fun h10 => ?_) (fun h10 => ?_)
                  · refine cond_yes (by assumption) ?_
                    iterate 4 refine cond_yes (by assumption) ?_
                    iterate 6 refine cond_yes rfl ?_
                    exact ⟨(), ⟨congrArg Value.bool (by rw [h10]; rfl), trivial⟩, H⟩
                  · refine fieldAddr_by (fa78_1 _) ?_
                    refine cond_no (by assumption) ?_
                    refine H.load 0 rfl agg3 rfl ?_
                    iterate 2 refine cond_no (by assumption) ?_
                    refine cond_dec (fun h28 => ?_) (fun h28 => ?_)
                    · refine cond_yes (decide_eq_true (by assumption)) ?_
                      refine fieldAddr_by (fa78_1 _) ?_
                      refine cond_yes (decide_eq_true (by assumption)) ?_
                      refine H.load 0 rfl agg3 rfl ?_
                      refine cond_yes (decide_eq_true (by assumption)) ?_
                      refine idxAddr_sl Try.underlying29 (s := 1) size4 m.lo rfl (by omega) (o' := m.lo) (by omega) ?_
                      refine cond_yes (decide_eq_true (by assumption)) ?_
                      refine H.loadOwn 1 rfl agg4 (bls_mb hlo') ?_
                      refine cond_yes (decide_eq_true (by assumption)) ?_
                      refine cond_no (by assumption) ?_
                      refine cond_yes (decide_eq_true (by assumption)) ?_
                      refine cond_no (by assumption) ?_
                      refine cond_split (fun h41 => ?_) (fun h41 => ?_)
                      · refine cond_yes (by assumption) ?_
                        iterate 4 refine cond_yes (by assumption) ?_
                        have q28 : (1 < m.lo) := by have h : ((1 : Int) < (m.lo : Int)) := h28; omega
                        exact ⟨(), ⟨congrArg Value.bool (by rw [h10, decide_eq_true q28, h41]; rfl), trivial⟩, H⟩
                      · refine fieldAddr_by (fa78_2 _) ?_
                        refine cond_no (by assumption) ?_
                        refine H.load 0 rfl agg3 rfl ?_
                        iterate 2 refine cond_no (by assumption) ?_
                        refine cond_dec (fun h53 => ?_) (fun h53 => ?_)
                        · refine cond_yes (decide_eq_true (by assumption)) ?_
                          refine fieldAddr_by (fa78_2 _) ?_
                          refine cond_yes (decide_eq_true (by assumption)) ?_
                          refine H.load 0 rfl agg3 rfl ?_
                          refine cond_yes (decide_eq_true (by assumption)) ?_
                          refine idxAddr_sl Try.underlying29 (s := 1) size4 m.hi rfl (by omega) (o' := m.hi) (by omega) ?_
                          refine cond_yes (decide_eq_true (by assumption)) ?_
                          refine H.loadOwn 1 rfl agg4 (bls_mb hhi') ?_
                          refine cond_yes (decide_eq_true (by assumption)) ?_
                          refine cond_no (by assumption) ?_
                          refine cond_yes (decide_eq_true (by assumption)) ?_
                          refine cond_no (by assumption) ?_
                          have q28 : (1 < m.lo) := by have h : ((1 : Int) < (m.lo : Int)) := h28; omega
                          have q53 : (1 < m.hi) := by have h : ((1 : Int) < (m.hi : Int)) := h53; omega
                          exact ⟨(), ⟨congrArg Value.bool (by rw [h10, decide_eq_true q28, h41, decide_eq_true q53]; rfl), trivial⟩, H⟩
                        · refine cond_no (decide_eq_false (by assumption)) ?_
                          iterate 4 refine cond_no (decide_eq_false (by assumption)) ?_
                          refine cond_no (by assumption) ?_
                          refine cond_no (decide_eq_false (by assumption)) ?_
                          refine cond_no (by assumption) ?_
                          have q28 : (1 < m.lo) := by have h : ((1 : Int) < (m.lo : Int)) := h28; omega
                          have q53 : ¬ (1 < m.hi) := by have h : ¬ ((1 : Int) < (m.hi : Int)) := h53; omega
                          exact ⟨(), ⟨congrArg Value.bool (by rw [h10, decide_eq_true q28, h41, decide_eq_false q53]; rfl), trivial⟩, H⟩
                    · refine cond_no (decide_eq_false (by assumption)) ?_
                      iterate 4 refine cond_no (decide_eq_false (by assumption)) ?_
                      refine cond_no (by assumption) ?_
                      refine cond_no (decide_eq_false (by assumption)) ?_
                      refine cond_no (by assumption) ?_
                      refine cond_no rfl ?_
                      refine fieldAddr_by (fa78_2 _) ?_
                      refine cond_no rfl ?_
                      refine H.load 0 rfl agg3 rfl ?_
                      iterate 2 refine cond_no rfl ?_
                      refine cond_dec (fun h90 => ?_) (fun h90 => ?_)
                      · refine cond_yes (decide_eq_true (by assumption)) ?_
                        refine fieldAddr_by (fa78_2 _) ?_
                        refine cond_yes (decide_eq_true (by assumption)) ?_
                        refine H.load 0 rfl agg3 rfl ?_
                        refine cond_yes (decide_eq_true (by assumption)) ?_
                        refine idxAddr_sl Try.underlying29 (s := 1) size4 m.hi rfl (by omega) (o' := m.hi) (by omega) ?_
                        refine cond_yes (decide_eq_true (by assumption)) ?_
                        refine H.loadOwn 1 rfl agg4 (bls_mb hhi') ?_
                        refine cond_yes (decide_eq_true (by assumption)) ?_
                        refine cond_no rfl ?_
                        refine cond_yes (decide_eq_true (by assumption)) ?_
                        refine cond_no rfl ?_
                        have q28 : ¬ (1 < m.lo) := by have h : ¬ ((1 : Int) < (m.lo : Int)) := h28; omega
                        have q90 : (1 < m.hi) := by have h : ((1 : Int) < (m.hi : Int)) := h90; omega
                        exact ⟨(), ⟨congrArg Value.bool (by rw [h10, decide_eq_false q28, decide_eq_true q90]; rfl), trivial⟩, H⟩
                      · refine cond_no (decide_eq_false (by assumption)) ?_
                        iterate 4 refine cond_no (decide_eq_false (by assumption)) ?_
                        refine cond_no rfl ?_
                        refine cond_no (decide_eq_false (by assumption)) ?_
                        refine cond_no rfl ?_
                        have q28 : ¬ (1 < m.lo) := by have h : ¬ ((1 : Int) < (m.lo : Int)) := h28; omega
                        have q90 : ¬ (1 < m.hi) := by have h : ¬ ((1 : Int) < (m.hi : Int)) := h90; omega
                        exact ⟨(), ⟨congrArg Value.bool (by rw [h10, decide_eq_false q28, decide_eq_false q90]; rfl), trivial⟩, H⟩
                · rintro ⟨⟩ u w9 H1
                  replace H : Hp _ _ _ _ _ := H1
                  clear H1
                  refine cut_rule (γ := Unit) _ rfl (fun _ => []) (fun _ w' => Hp w (fun _ => False) w' [blk g9 78 (encN (m, false)).toArray, own 4 1 (.slice (some ⟨g2, 0, none⟩) (N.length + 2) (N.length + 2)) (N.length + 2) (bls (umk M m.lo)), blk g1 64 (rc room (.slice (some ⟨g0, o0, none⟩) N.length c))] []) ?_ ?_
                  · refine H.draw fol (by kernel_rfl) ?_
                    clear H
                    intro w10 H
                    refine quiet _ (fun w H => fieldAddr_by (fa78_1 _) ⟨rfl, rfl⟩) ?_
                    refine quiet _ (fun w H => H.load 0 rfl agg3 rfl ⟨rfl, rfl⟩) ?_
                    refine quiet _ (fun w H => fieldAddr_by (fa78_1 _) ⟨rfl, rfl⟩) ?_
                    refine quiet _ (fun w H => H.load 0 rfl agg3 rfl ⟨rfl, rfl⟩) ?_
                    refine quiet _ (fun w H => idxAddr_sl Try.underlying29 (s := 1) size4 m.lo rfl (by omega) (o' := m.lo) (by omega) ⟨rfl, rfl⟩) ?_
                    refine quiet _ (fun w H => H.loadOwn 1 rfl agg4 (bls_mb hlo') ⟨rfl, rfl⟩) ?_
                    refine cond_split (fun h17 => ?_) (fun h17 => ?_)
                    · refine cond_yes (by assumption) ?_
                      iterate 2 refine cond_yes (by assumption) ?_
                      refine quiet _ (fun w H => idxAddr_sl Try.underlying29 (s := 1) size4 m.lo rfl (by omega) (o' := m.lo) (by omega) ⟨rfl, rfl⟩) ?_
                      refine H.storeOwn 1 rfl size4 (by rw [bls, List.length_map]; exact hlo') rfl ?_ 
                      clear H 
                      intro w22 H 
                      refine ⟨.inr rfl, ?_⟩ 
                      rw [← bls_set] at H
                      exact ⟨(), trivial, by rw [umk_t (by assumption)]; exact H⟩
                    · refine quiet _ (fun w H => fieldAddr_by (fa78_1 _) ⟨rfl, rfl⟩) ?_
                      refine cond_no (by assumption) ?_
                      refine quiet _ (fun w H => H.load 0 rfl agg3 rfl ⟨rfl, rfl⟩) ?_
                      iterate 2 refine cond_no (by assumption) ?_
                      refine quiet _ (fun w H => idxAddr_sl Try.underlying29 (s := 1) size4 m.lo rfl (by omega) (o' := m.lo) (by omega) ⟨rfl, rfl⟩) ?_
                      refine H.storeOwn 1 rfl size4 (by rw [bls, List.length_map]; exact hlo') rfl ?_ 
                      clear H 
                      intro w30 H 
                      refine ⟨.inr rfl, ?_⟩ 
                      rw [← bls_set] at H
                      exact ⟨(), trivial, by rw [umk_f (by assumption)]; exact H⟩
                  · clear H
                    rintro ⟨⟩ u w10 H
                    replace H : Hp _ _ _ _ _ := H
                    have hhj : m.hi < (umk M m.lo).length := by rw [umk_length]; exact hhi'
                    refine H.draw fol (by kernel_rfl) ?_
                    clear H
                    intro w11 H
                    refine quiet _ (fun w H => fieldAddr_by (fa78_2 _) ⟨rfl, rfl⟩) ?_
                    refine quiet _ (fun w H => H.load 0 rfl agg3 rfl ⟨rfl, rfl⟩) ?_
                    refine quiet _ (fun w H => fieldAddr_by (fa78_2 _) ⟨rfl, rfl⟩) ?_
                    refine quiet _ (fun w H => H.load 0 rfl agg3 rfl ⟨rfl, rfl⟩) ?_
                    refine quiet _ (fun w H => idxAddr_sl Try.underlying29 (s := 1) size4 m.hi rfl (by omega) (o' := m.hi) (by omega) ⟨rfl, rfl⟩) ?_
                    refine quiet _ (fun w H => H.loadOwn 1 rfl agg4 (bls_mb hhj) ⟨rfl, rfl⟩) ?_
                    refine cond_split (fun h18 => ?_) (fun h18 => ?_)
                    · refine cond_yes (by assumption) ?_
                      iterate 2 refine cond_yes (by assumption) ?_
                      refine quiet _ (fun w H => idxAddr_sl Try.underlying29 (s := 1) size4 m.hi rfl (by omega) (o' := m.hi) (by omega) ⟨rfl, rfl⟩) ?_
                      refine H.storeOwn 1 rfl size4 (by rw [bls, List.length_map]; exact hhj) rfl ?_ 
                      clear H 
                      intro w23 H 
                      refine ⟨.inr rfl, ?_⟩ 
                      rw [← bls_set] at H
                      exact ⟨(x + 3, umk (umk M m.lo) m.hi, _), by show N.length + 2 - (x + 3) < N.length + 2 - (x + 2); omega, ⟨up (by omega), rfl, trivial⟩, ⟨by show 2 ≤ x + 3; omega, by show x + 3 ≤ N.length + 2; omega, hst⟩, by rw [umk_t (by assumption)]; exact H.forget⟩
                    · refine quiet _ (fun w H => fieldAddr_by (fa78_2 _) ⟨rfl, rfl⟩) ?_
                      refine cond_no (by assumption) ?_
                      refine quiet _ (fun w H => H.load 0 rfl agg3 rfl ⟨rfl, rfl⟩) ?_
                      iterate 2 refine cond_no (by assumption) ?_
                      refine quiet _ (fun w H => idxAddr_sl Try.underlying29 (s := 1) size4 m.hi rfl (by omega) (o' := m.hi) (by omega) ⟨rfl, rfl⟩) ?_
                      refine H.storeOwn 1 rfl size4 (by rw [bls, List.length_map]; exact hhj) rfl ?_ 
                      clear H 
                      intro w31 H 
                      refine ⟨.inr rfl, ?_⟩ 
                      rw [← bls_set] at H
                      exact ⟨(x + 3, umk (umk M m.lo) m.hi, _), by show N.length + 2 - (x + 3) < N.length + 2 - (x + 2); omega, ⟨up (by omega), rfl, trivial⟩, ⟨by show 2 ≤ x + 3; omega, by show x + 3 ≤ N.length + 2; omega, hst⟩, by rw [umk_f (by assumption)]; exact H.forget⟩
            · exact ⟨(p + 1, M, more), by show N.length + 2 - (p + 1) < N.length + 2 - p; omega, ⟨up (by omega), rfl, trivial⟩, ⟨by show 2 ≤ p + 1; omega, by show p + 1 ≤ N.length + 2; omega, hI.skip hpm⟩, H⟩
          · have hpe : p = (ab N).length + 2 := by rw [ab_length]; omega
            subst hpe
            refine ⟨(more, M), ?_, ⟨rfl, trivial⟩, ⟨by rw [hI.len, ab_length], hI.sou, hI.roo, fun hm => (hI.no hm).2⟩, H⟩
            show (if more = true then N.length + 3 - cntMk M else 0) < N.length + 3 - cntMk M0
            have h1 := cntMk_le M0
            have h2 := cntMk_le M
            have h3 : M.length = N.length + 2 := by rw [hI.len, ab_length]
            cases more with
            | false => rw [if_neg (by decide)]; omega
            | true => have := hI.yes rfl; rw [if_pos rfl]; omega
      · clear H
        rintro M u w5 ⟨⟨hM, hS, hR, hC⟩, H⟩
        replace H : Hp _ _ _ _ _ := H
        exact ⟨g2, M, rfl, hM, RI.done hS hR hC, H.out⟩
end Go.Proofs.Ytjebpngdinbckaa
end

section
/- The reference's arenas: Sweep. -/
namespace Go.Proofs.Ytjebpngdinbckaa
open Go.Dk
attribute [local irreducible] IntKind.wrap

/-- The nodes behind a sweep. -/
def swp (N : List RN) (M : List Bool) : List RN := N.mapIdx fun j x => (x.1, x.2 || !mb M (j + 2))
theorem swp_length (N : List RN) (M : List Bool) : (swp N M).length = N.length := List.length_mapIdx ..
theorem swp_snoc {N : List RN} {M : List Bool} {i : Nat} {x : RN} (h : N[i]? = some x) : swp (N.take (i + 1)) M = swp (N.take i) M ++ [(x.1, x.2 || !mb M (i + 2))] := by
  have hi := (List.getElem?_eq_some_iff.1 h).1
  unfold swp
  rw [List.take_add_one, h, Option.toList_some, List.mapIdx_concat, List.length_take, Nat.min_eq_left (by omega)]
theorem slots_eq {A C : Ar} (hl : A.length = C.length) (h : ∀ i n, slot A i = some n ↔ slot C i = some n) : A = C := by
  apply List.ext_getElem?
  intro i
  by_cases hi : i < A.length
  · rw [slot_get hi, slot_get (by omega), Option.ext (h i)]
  · rw [List.getElem?_eq_none (by omega), List.getElem?_eq_none (by omega)]
theorem ab_swp {N : List RN} {M : List Bool} {ks : List Int} (hA : ArInv (ab N)) (hM : ∀ x, mb M (x + 2) = true ↔ ∃ k ∈ ks, Rch (ab N) k x) : ab (swp N M) = sweepA (ab N) ks := by
  refine slots_eq (by rw [ab_length, swp_length, show (sweepA (ab N) ks).length = (ab N).length from sweepTo_length _ _ _, ab_length]) fun i n => ?_
  rw [slot_sweep hA, ← hM]
  by_cases hi : i < N.length
  · have hx : N[i]? = some N[i] := List.getElem?_eq_getElem hi
    have hy : (swp N M)[i]? = some (N[i].1, N[i].2 || !mb M (i + 2)) := by unfold swp; rw [List.getElem?_mapIdx, hx]; rfl
    rw [slot_ab hx, slot_ab hy]
    cases N[i].2 <;> cases mb M (i + 2) <;> simp
  · rw [slot_none (by rw [ab_length, swp_length]; omega), slot_none (by rw [ab_length]; omega)]
    simp
theorem ent67 : enters Try.prog 67 = true := by kernel_rfl
theorem c67 (room : Int) (N : List RN) (B : Option Addr) (c : Nat) (ks : List Int) (Bk : Option Addr) (ck : Nat) (w : World) (hl : N.length ≤ 100000) (hkl : ks.length ≤ 100000) (hs : Sl w (.slice B N.length c) 4 N.length (flat encN N))
    (hsk : Sl w (.slice Bk ks.length ck) 1 ks.length (intsI ks)) (hA : ArInv (ab N)) :
    Fun Try.prog 67 [rv room (.slice B N.length c), .slice Bk ks.length ck] w fun v w' =>
      ∃ N' B' c', ab N' = sweepA (ab N) ks ∧ v = rv room (.slice B' N'.length c') ∧ NewR w w' (own 78 4 (.slice B' N'.length c') N'.length (flat encN N')) := by
  refine fun_of_W (N := 45) Try.func67 ent67 rfl rfl rfl (by simp) ?_
  have H := Hp.start0 w
  refine H.box 64 (rv _ _) (cs := rc _ _) rfl ?_
  clear H
  intro g1 w1 H
  refine H.alloc 64 zero64 rfl ?_
  clear H
  intro g2 w2 H
  refine H.loadAll 1 rfl agg64 size64 ?_
  refine call_fn (c73 room N B c ks Bk ck _ hl hkl (hs.same H.keeps) (hsk.same H.keeps) hA) ?_
  rintro _ w3 ⟨g3, M, rfl, hMl, hM, hn⟩
  replace H := H.addNew hn
  clear hn
  refine cut_rule (γ := Nat) _ rfl (fun g4 => [(6, .pointer (some ⟨g4, 0, none⟩))]) (fun g4 w' => Hp w (fun _ => False) w' [blk g4 64 (rc room (.slice none 0 0)), own 4 1 (.slice (some ⟨g3, 0, none⟩) (N.length + 2) (N.length + 2)) (N.length + 2) (bls M), blk g2 64 (rv 0 (.slice none 0 0)).cells, blk g1 64 (rc room (.slice B N.length c))] []) ?_ ?_
  · refine fieldAddr_by (fa64_0 _) ?_
    refine H.load 2 rfl agg3 rfl ?_
    refine build64a ?_
    refine H.alloc 64 zero64 rfl ?_
    clear H
    intro g7 w7 H
    refine H.storeAll 0 rfl size64 rfl (fun v hv => rc_one v hv) ?_ 
    clear H 
    intro w8 H
    exact ⟨_, ⟨rfl, trivial⟩, H⟩
  · clear H
    rintro g4 u w4 H
    replace H : Hp _ _ _ _ _ := H
    replace H := (H.ownNil 78 4).front 1 rfl
    refine cut_rule (γ := Option Addr × Nat) _ rfl (fun _ => []) (fun (A, d) w' => Hp w (fun _ => False) w' [blk g4 64 (rc room (.slice A N.length d)), own 78 4 (.slice A N.length d) N.length (flat encN (swp N M)), own 4 1 (.slice (some ⟨g3, 0, none⟩) (N.length + 2) (N.length + 2)) (N.length + 2) (bls M), blk g2 64 (rv 0 (.slice none 0 0)).cells, blk g1 64 (rc room (.slice B N.length c))] []) ?_ ?_
    · refine loop_rule (γ := Nat × Option Addr × Nat) _ rfl (fun (i, _, _) => [(7, .int .i64 (i : Int))])
        (fun (i, A, d) w' => i ≤ N.length ∧ Hp w (fun _ => False) w' [blk g4 64 (rc room (.slice A i d)), own 78 4 (.slice A i d) i (flat encN (swp (N.take i) M)), own 4 1 (.slice (some ⟨g3, 0, none⟩) (N.length + 2) (N.length + 2)) (N.length + 2) (bls M), blk g2 64 (rv 0 (.slice none 0 0)).cells, blk g1 64 (rc room (.slice B N.length c))] [])
        (fun (i, _, _) => N.length - i) (0, none, 0) ⟨rfl, trivial⟩ ⟨Nat.zero_le _, H⟩ ?_
      clear H
      rintro ⟨i, A, d⟩ u w5 ⟨hi, H⟩
      replace H : Hp _ _ _ _ _ := H
      refine fieldAddr_by (fa64_1 _) ?_
      refine H.load 4 rfl agg62 rfl ?_
      refine len_sl Try.underlying62 ?_
      refine cond_dec (fun h7 => ?_) (fun h7 => ?_)
      · obtain ⟨x, hx⟩ : ∃ y, N[i]? = some y := ⟨_, List.getElem?_eq_getElem (by omega)⟩
        obtain ⟨g0, o0, rfl⟩ := hs.A (by omega)
        have hsn := swp_snoc (M := M) hx
        refine fieldAddr_by (fa64_1 _) ?_
        refine H.load 4 rfl agg62 rfl ?_
        refine idxAddr_sl Try.underlying62 (s := 4) size78 i rfl (by omega) (o' := o0 + i * 4) rfl ?_
        refine Sl.loadAgg H hs encN_length agg78 size78 i rfl hx ?_
        refine H.alloc 78 zero78 rfl ?_
        clear H
        intro g9 w8 H
        refine H.storeAll 0 rfl size78 rfl (fun v hv => encN_one x v hv) ?_
        clear H
        intro w9 H
        refine cut_rule (γ := Unit) _ rfl (fun _ => []) (fun _ w' => Hp w (fun _ => False) w' [blk g9 78 (encN (x.1, x.2 || !mb M (i + 2))).toArray, blk g4 64 (rc room (.slice A i d)), own 78 4 (.slice A i d) i (flat encN (swp (N.take i) M)), own 4 1 (.slice (some ⟨g3, 0, none⟩) (N.length + 2) (N.length + 2)) (N.length + 2) (bls M), blk g2 64 (rv 0 (.slice none 0 0)).cells, blk g1 64 (rc room (.slice (some ⟨g0, o0, none⟩) N.length c))] []) ?_ ?_
        · refine fieldAddr_by (fa78_3 _) ?_
          refine H.load 0 rfl agg4 rfl ?_
          refine cond_split (fun h11 => ?_) (fun h11 => ?_)
          · refine cond_yes (by assumption) ?_
            iterate 5 refine cond_yes (by assumption) ?_
            refine fieldAddr_by (fa78_3 _) ?_
            refine H.store 0 rfl size4 (by show 3 < 4; decide) rfl ?_ 
            clear H 
            intro w19 H
            exact ⟨(), trivial, by rw [h11, Bool.true_or]; exact H⟩
          · refine cond_no (by assumption) ?_
            iterate 2 refine cond_no (by assumption) ?_
            refine idxAddr_sl Try.underlying29 (s := 1) size4 (i + 2) (wlen2 (by omega)) (by omega) (o' := i + 2) (by omega) ?_
            refine cond_no (by assumption) ?_
            refine H.loadOwn 3 rfl agg4 (bls_mb (by omega)) ?_
            iterate 2 refine cond_no (by assumption) ?_
            refine fieldAddr_by (fa78_3 _) ?_
            refine H.store 0 rfl size4 (by show 3 < 4; decide) rfl ?_ 
            clear H 
            intro w30 H
            exact ⟨(), trivial, by rw [h11, Bool.false_or]; exact H⟩
        · clear H
          rintro ⟨⟩ u w7 H
          replace H : Hp _ _ _ _ _ := H
          refine fieldAddr_by (fa64_1 _) ?_
          refine H.load 1 rfl agg62 rfl ?_
          refine H.loadAll 0 rfl agg78 size78 ?_
          refine H.buildSl T62 (cs := (encN (x.1, x.2 || !mb M (i + 2))).toArray) (by decide) (by decide) (by kernel_rfl) ?_
          clear H
          intro g5 w9 H
          refine H.appendBlk 3 0 T62 rfl rfl rfl (encN_one _) (by omega) (by omega) ?_
          clear H
          intro A1 d1 w10 H
          refine fieldAddr_by (fa64_1 _) ?_
          refine H.store 2 rfl size62 (by show 1 < 2; decide) rfl ?_
          clear H
          intro w11 H
          exact ⟨(i + 1, A1, d1), by show N.length - (i + 1) < N.length - i; omega, ⟨up (by omega), trivial⟩, by show i + 1 ≤ N.length; omega, by rw [hsn, flat_snoc]; exact H.forget.forget⟩
      · have : i = N.length := by omega
        subst this
        rw [List.take_length] at H
        exact ⟨(A, d), trivial, H⟩
    · clear H
      rintro ⟨A, d⟩ u w5 H
      replace H : Hp _ _ _ _ _ := H
      refine H.loadAll 0 rfl agg64 size64 ?_
      refine H.storeAll 3 rfl size64 rfl (fun v hv => rc_one v hv) ?_ 
      clear H 
      intro w6 H
      refine H.loadAll 3 rfl agg64 size64 ?_
      refine ⟨rfl, ?_⟩
      exact ⟨swp N M, A, d, ab_swp hA hM, by rw [swp_length]; rfl, by rw [swp_length]; exact H.outAt 1 rfl⟩
end Go.Proofs.Ytjebpngdinbckaa
end

section
/- ArenaMakes. -/
namespace Go.Proofs.Ytjebpngdinbckaa
open Go.Dk
attribute [local irreducible] IntKind.wrap

theorem upj {j : Nat} (h : j ≤ 1000000) : Value.int .i64 (IntKind.i64.wrap ((j : Int) + 2 + 1)) = .int .i64 (((j + 1 : Nat) : Int) + 2) :=
  congrArg (Value.int .i64) (by rw [IntKind.wrap_i64]; omega)
theorem blk_Sl1 {w : World} {g : Nat} {t : TypeId} {v : Value} (h : (blk g t #[v]).ok w) (hg : g < w.heap.size) : Sl w (.slice (some ⟨g, 0, none⟩) 1 1) 1 1 [v] := by
  refine ⟨rfl, _, 1, rfl, Nat.le_refl _, .inr ⟨g, 0, rfl, hg, fun j hj => ?_⟩⟩
  obtain rfl : j = 0 := by omega
  rw [Nat.zero_add, blk_cell h]; rfl
theorem reach_spec {A : Ar} (h : ArInv A) (id : Int) (x : Nat) : mb (markA A 26 id (List.replicate A.length false)) x = true ↔ Rch A id x := by
  have hs := mark_spec h 26 id (List.replicate A.length false) (by have := lvlA_ge A id; omega) (by simp) (fun i n hi => by rw [mb_replicate] at hi; cases hi)
  rw [hs x, mb_replicate]; simp
theorem reachTo_pre (met : List Bool) (j : Nat) : ∀ n, j ≤ n → ∃ t, reachTo met n = reachTo met j ++ t := by
  intro n hn
  induction n with
  | zero => obtain rfl : j = 0 := by omega
            exact ⟨[], by simp⟩
  | succ n ih =>
    by_cases hj : j ≤ n
    · obtain ⟨t, ht⟩ := ih hj
      rw [reachTo_succ]
      split
      · exact ⟨t ++ [n + 2], by rw [ht, List.append_assoc]⟩
      · exact ⟨t, ht⟩
    · obtain rfl : j = n + 1 := by omega
      exact ⟨[], by simp⟩
theorem reach_at {met : List Bool} {j n : Nat} (h : j < n) (hm : mb met j = true) : (reachTo met n)[(reachTo met j).length]? = some (j + 2) := by
  obtain ⟨t, ht⟩ := reachTo_pre met (j + 1) n h
  rw [ht, reachTo_succ, if_pos hm, List.append_assoc, List.getElem?_append_right (Nat.le_refl _)]
  simp
theorem ent9 : enters Try.prog 9 = true := by kernel_rfl
theorem law9_b (room : Int) (hr : room < 0 ∨ 20000 < room) (v1 : Value) (id : Int) (w : World) : Fun Try.prog 9 [.int .i64 room, v1, .int .i64 id] w fun v w' => v = .bool true ∧ Same w w' := by
  refine fun_of_W (N := 213) Try.func9 ent9 rfl rfl rfl (by simp) ?_
  have H := Hp.start0 w
  refine call_fn (c64_b _ (by assumption) _) ?_
  rintro _ w1 ⟨rfl, hk⟩
  replace H := H.same hk
  clear hk
  refine cond_dec (fun h2 => ?_) (fun h2 => ?_)
  · refine cond_yes (decide_eq_true (by assumption)) ?_
    refine cond_yes (decide_eq_true (by assumption)) ?_
    refine cond_yes rfl ?_
    refine bin_eql59z ?_
    iterate 4 refine cond_yes rfl ?_
    refine call_fn (c65 _) ?_ 
    rintro _ w11 ⟨rfl, hk⟩ 
    replace H := H.same hk 
    clear hk
    refine cond_yes rfl ?_
    exact ⟨rfl, H.keeps⟩
  · refine cond_no (decide_eq_false (by assumption)) ?_
    refine cond_no (decide_eq_false (by assumption)) ?_
    refine cond_yes (decide_eq_true (by omega)) ?_
    refine bin_eql59z ?_
    iterate 4 refine cond_yes rfl ?_
    refine call_fn (c65 _) ?_ 
    rintro _ w22 ⟨rfl, hk⟩ 
    replace H := H.same hk 
    clear hk
    refine cond_yes rfl ?_
    exact ⟨rfl, H.keeps⟩
theorem agg66 : aggT Try.prog 66 = some true := by kernel_rfl
theorem agg32 : aggT Try.prog 32 = some false := by kernel_rfl
def z66 : Value := .agg #[.int .i64 0, .int .i64 0, .int .i64 0, .int .i64 0, .slice none 0 0]
theorem zero66 : zeroT Try.prog 66 = some z66 := by kernel_rfl
theorem encA_one {w : World} {a : AskV} (h : AskAt w a) : ∀ v ∈ encA a, v.oneCell' = true := by
  obtain ⟨_, _, _, _, ks, B, c, hv, _⟩ := h
  intro v hm
  simp [encA] at hm
  rcases hm with rfl | rfl | rfl | rfl | rfl
  · rfl
  · rfl
  · rfl
  · rfl
  · rw [hv]; rfl
theorem law9_m (room : Int) (h0 : 0 ≤ room) (h1 : room ≤ 20000) (la : List AskV) (B1 : Option Addr) (c1 : Nat) (id : Int) (hid : okI id) (w : World)
    (hla : ∀ a ∈ la, AskAt w a) (hs1 : Sl w (.slice B1 la.length c1) 5 la.length (flat encA la)) : Fun Try.prog 9 [.int .i64 room, .slice B1 la.length c1, .int .i64 id] w fun v w' => v = .bool true ∧ Same w w' := by
  refine fun_of_W (N := 213) Try.func9 ent9 rfl rfl rfl (by simp) ?_
  have H := Hp.start0 w
  refine call_fn (c64_a _ h0 h1 _) ?_
  rintro _ w2 ⟨g, r, rfl, hn⟩
  replace H := H.addNew hn
  clear hn
  repeat refine cond_no (decide_eq_false (by omega)) ?_
  refine bin_eql59 ?_
  repeat refine cond_no rfl ?_
  refine cut_rule (γ := Nat) _ rfl (fun g9 => [(9, .pointer (some ⟨g9, 0, none⟩))]) (fun g9 w' => Hp w (fun _ => False) w' [blk g9 64 (rc room (.slice none 0 0)), arR g r (.slice none 0 0) room []] []) ?_ ?_
  · refine build64a ?_
    refine H.alloc 64 zero64 rfl ?_
    clear H
    intro g4 w4 H
    refine H.storeAll 0 rfl size64 rfl (fun v hv => rc_one v hv) ?_ 
    clear H 
    intro w5 H
    exact ⟨_, ⟨rfl, trivial⟩, H⟩
  · clear H
    rintro g9 u w3 H
    replace H : Hp _ _ _ _ _ := H
    replace H := (H.ownNil 78 4).front 1 rfl
    refine cut_rule (γ := Value × List RN × Option Addr × Nat) _ rfl (fun _ => []) (fun (sv, N, B, c) w' => ArOk room (ab N) ∧ Hp w (fun _ => False) w' [blk g9 64 (rc room (.slice B N.length c)), own 78 4 (.slice B N.length c) N.length (flat encN N), arR g r sv room (ab N)] []) ?_ ?_
    · refine loop_rule (γ := Nat × Value × List RN × Option Addr × Nat) _ rfl (fun (i, _) => [(10, .int .i64 (i : Int))])
        (fun (i, sv, N, B, c) w' => (i ≤ 60 ∧ ArOk room (ab N)) ∧ Hp w (fun _ => False) w' [blk g9 64 (rc room (.slice B N.length c)), own 78 4 (.slice B N.length c) N.length (flat encN N), arR g r sv room (ab N)] []) (fun (i, _) => 60 - i) (0, .slice none 0 0, [], none, 0) ⟨rfl, trivial⟩ ⟨⟨Nat.zero_le _, ok_nil h0 h1⟩, H⟩ ?_
      clear H
      rintro ⟨i, sv, N, B, c⟩ u w4 ⟨⟨hi, hok⟩, H⟩
      replace H : Hp _ _ _ _ _ := H
      refine len_sl Try.underlying58 ?_
      by_cases hgo : i < la.length ∧ i < 60
      · obtain ⟨g1, o1, rfl⟩ := hs1.A (by omega)
        obtain ⟨a, ha⟩ : ∃ a, la[i]? = some a := ⟨_, List.getElem?_eq_getElem hgo.1⟩
        have haa := hla a (List.mem_of_getElem? ha)
        obtain ⟨kd, kl, klo, khi, ks, hks⟩ := hla a (List.mem_of_getElem? ha)
        obtain ⟨Bk, ck, hkv, hkl, hkk, hsk⟩ := hks
        obtain ⟨akd, al, alo, ahi, akv⟩ := a
        simp only at hkv kd kl klo khi
        subst hkv
        have hN2 : N.length ≤ 20000 := by have h3 := hok.len; have h4 := hok.room; rw [ab_length] at h3; omega
        iterate 4 refine cond_yes (decide_eq_true (by omega)) ?_
        refine idxAddr_sl Try.underlying58 size66 i rfl hgo.1 (o' := o1 + i * 5) rfl ?_
        refine Sl.loadAgg H hs1 encA_length agg66 size66 i rfl ha ?_
        refine H.alloc 66 zero66 rfl ?_
        clear H
        intro g11 w5 H
        refine H.storeAll 0 rfl size66 rfl (fun v hv => encA_one haa v hv) ?_
        clear H
        intro w6 H
        refine fieldAddr_by (fa66_4 _ _) ?_
        refine H.load 0 rfl agg32 rfl ?_
        refine len_sl Try.underlying32 ?_
        refine cond_dec (fun hk20 => ?_) (fun hk20 => ?_)
        · refine call_fn (c65 _) ?_ 
          rintro _ w7 ⟨rfl, hk⟩ 
          replace H := H.same hk 
          clear hk
          exact ⟨rfl, H.keeps⟩
        · refine cut_rule (γ := Value × List RN × Option Addr × Nat) _ rfl (fun _ => []) (fun (sv, N, B, c) w' => ArOk room (ab N) ∧ Hp w (fun _ => False) w' [blk g9 64 (rc room (.slice B N.length c)), own 78 4 (.slice B N.length c) N.length (flat encN N), arR g r sv room (ab N)] []) ?_ ?_
          · refine fieldAddr_by (fa66_0 _ _) ?_
            refine H.load 0 rfl agg3 rfl ?_
            refine cond_beq (fun h10 => ?_) (fun h10 => ?_)
            · refine fieldAddr_by (fa66_4 _ _) ?_
              refine H.load 0 rfl agg32 rfl ?_
              refine call_fn (c66 hok ks (fun k hk => (hkk k hk).2) (by omega) (S := fun x => x < w.heap.size) _ (H.get 3 rfl) ((sl _ _ _ _ _).stable w _ (fun x hx => H.keeps.old x hx (fun h => h)) hsk) (fun x hx => Nat.lt_of_lt_of_le hx H.keeps.size)
                (fun x hx hf => by rcases H.new _ (.tail _ (.tail _ (.tail _ (.head _)))) x hf with h | h; · omega
                                   · exact h)) ?_
              rintro _ w7 ⟨rfl, ht⟩
              replace H := H.turnBy 3 rfl ht
              clear ht
              refine H.loadAll 1 rfl agg64 size64 ?_
              refine fieldAddr_by (fa66_4 _ _) ?_
              refine H.load 0 rfl agg32 rfl ?_
              refine call_fn (c67 room N B c ks Bk ck _ (by omega) (by omega) (own_Sl (H.get 2 rfl)) (hsk.same H.keeps) hok.inv) ?_
              rintro _ w8 ⟨N', B', c', hab, rfl, hn⟩
              replace H := H.addNew hn
              clear hn
              refine H.storeAll 2 rfl size64 rfl (fun v hv => rc_one v hv) ?_
              clear H
              intro w9 H
              have hok' := ok_sweep hok ks
              rw [← hab] at hok' H
              exact ⟨(sv, N', B', c'), trivial, hok', ((H.front 3 rfl).forget.front 1 rfl).forget.front 1 rfl⟩
            · refine fieldAddr_by (fa66_1 _ _) ?_
              refine H.load 0 rfl agg3 rfl ?_
              refine fieldAddr_by (fa66_2 _ _) ?_
              refine H.load 0 rfl agg3 rfl ?_
              refine fieldAddr_by (fa66_3 _ _) ?_
              refine H.load 0 rfl agg3 rfl ?_
              refine call_fn (c68 al alo ahi kl.2 klo.2 khi.2 hok _ (H.get 3 rfl)) ?_
              rintro _ w7 ⟨sv1, rfl, ht⟩
              replace H := H.turnBy 3 rfl ht
              clear ht
              refine H.loadAll 1 rfl agg64 size64 ?_
              refine fieldAddr_by (fa66_1 _ _) ?_
              refine H.load 0 rfl agg3 rfl ?_
              refine fieldAddr_by (fa66_2 _ _) ?_
              refine H.load 0 rfl agg3 rfl ?_
              refine fieldAddr_by (fa66_3 _ _) ?_
              refine H.load 0 rfl agg3 rfl ?_
              refine call_fn (c69 room N B c al alo ahi _ (by omega) (own_Sl (H.get 2 rfl)) hok.inv) ?_
              rintro _ w8 ⟨N', B', c', hab, rfl, hn⟩
              have H' : Hp w (fun _ => False) w8 [blk g11 66 (encA ⟨akd, al, alo, ahi, .slice Bk ks.length ck⟩).toArray, blk g9 64 (rc room (.slice B N.length c)), own 78 4 (.slice B' N'.length c') N'.length (flat encN N'), arR g r sv1 room (mkA room (ab N) al alo ahi).1] [] := by
                rcases hn with ⟨rfl, rfl, rfl, hk⟩ | hn
                · exact H.same hk
                · exact ((((H.addNew hn).front 3 rfl).forget.front 2 rfl).front 2 rfl)
              replace H := H'
              clear H' hn
              have hok' := ok_mk hok al alo ahi
              rw [← hab] at hok' H
              refine H.alloc 64 zero64 rfl ?_ 
              clear H 
              intro g14 w9 H
              refine H.storeAll 0 rfl size64 rfl (fun v hv => rc_one v hv) ?_ 
              clear H 
              intro w10 H
              refine H.loadAll 0 rfl agg64 size64 ?_
              refine H.storeAll 2 rfl size64 rfl (fun v hv => rc_one v hv) ?_ 
              clear H 
              intro w11 H
              iterate 5 refine cond_no (bne_self_eq_false _) ?_
              exact ⟨(sv1, N', B', c'), trivial, hok', H.forget.forget⟩
          · clear H
            rintro ⟨sv, N, B, c⟩ u w7 ⟨hok, H⟩
            replace H : Hp _ _ _ _ _ := H
            have hN2 : N.length ≤ 20000 := by have h3 := hok.len; have h4 := hok.room; rw [ab_length] at h3; omega
            refine H.draw fol (by kernel_rfl) ?_
            clear H
            intro w8 H
            refine call_fn (c70 _ (H.get 2 rfl)) ?_ 
            rintro _ w10 ⟨rfl, hk10⟩ 
            replace H := H.same hk10 
            refine ⟨.inl H, ?_⟩
            refine quiet _ (fun w H => H.loadAll 0 rfl agg64 size64 ⟨rfl, rfl⟩) ?_
            refine call_fn (c71 room N B c _ (by omega) (own_Sl (H.get 1 rfl))) ?_ 
            rintro _ w13 ⟨rfl, hk13⟩ 
            replace H := H.same hk13 
            refine ⟨.inl H, ?_⟩
            iterate 2 refine cond_no (bne_self_eq_false _) ?_
            refine call_fn (c70 _ (H.get 2 rfl)) ?_ 
            rintro _ w16 ⟨rfl, hk16⟩ 
            replace H := H.same hk16 
            refine ⟨.inl H, ?_⟩
            iterate 3 refine cond_no (bne_self_eq_false _) ?_
            refine cond_dec (fun h20 => ?_) (fun h20 => ?_)
            · refine ⟨congrArg Value.bool ?_, H.keeps⟩
              have hlv : liveA (ab N) ≤ (ab N).length := List.countP_le_length
              have hlr := hok.len
              omega
            · exact ⟨(i + 1, sv, N, B, c), by show 60 - (i + 1) < 60 - i; omega, ⟨up (by omega), trivial⟩, ⟨by show i + 1 ≤ 60; omega, hok⟩, H⟩
      · refine cond_dec (fun h5 => ?_) (fun h5 => ?_)
        · refine cond_yes (decide_eq_true (by assumption)) ?_
          refine cond_yes (decide_eq_true (by assumption)) ?_
          refine cond_no (decide_eq_false (by omega)) ?_
          exact ⟨(sv, N, B, c), trivial, hok, H⟩
        · refine cond_no (decide_eq_false (by assumption)) ?_
          refine cond_no (decide_eq_false (by assumption)) ?_
          refine cond_no rfl ?_
          exact ⟨(sv, N, B, c), trivial, hok, H⟩
    · clear H
      rintro ⟨sv, N, B, c⟩ u w4 ⟨hok, H⟩
      replace H : Hp _ _ _ _ _ := H
      have hN2 : N.length ≤ 20000 := by have h3 := hok.len; have h4 := hok.room; rw [ab_length] at h3; omega
      refine cut_rule (γ := Unit) _ rfl (fun _ => []) (fun _ w' => Hp.cl H w') ?_ ?_
      · refine loop_rule (γ := Nat) _ rfl (fun j => [(17, .int .i64 ((j : Int) + 2))]) (fun j w' => j ≤ N.length ∧ Hp.cl H w') (fun j => N.length - j) 0 ⟨rfl, trivial⟩ ⟨Nat.zero_le _, H⟩ ?_
        rintro j u w5 ⟨hj, H1⟩
        replace H : Hp _ _ _ _ _ := H1
        refine fieldAddr_by (fa64_1 _) ?_
        refine H.load 0 rfl agg62 rfl ?_
        refine len_sl Try.underlying62 ?_
        have hw2 := wlen2 (n := N.length) (by omega)
        have hupj := upj (j := j) (by omega)
        by_cases hgo : j < N.length
        · refine cond_yes (decide_eq_true (by rw [hw2]; omega)) ?_
          obtain ⟨⟨m, d⟩, hx⟩ : ∃ y, N[j]? = some y := ⟨_, List.getElem?_eq_getElem hgo⟩
          have hsl := slot_ab hx
          obtain ⟨g6, rfl⟩ := H.ownA 1 rfl (by omega)
          cases d with
          | true =>
            replace hsl : slot (ab N) j = none := hsl
            refine call_fn (c72_b _ (by omega) (by unfold thereA; rw [show ((j : Int) + 2 - 2).toNat = j by omega, hsl]; simp) _ (H.get 2 rfl)) ?_
            rintro _ w6 ⟨rfl, hk⟩
            replace H := H.same hk
            clear hk
            refine fieldAddr_by (fa64_1 _) ?_
            refine H.load 0 rfl agg62 rfl ?_
            refine idxAddr_sl Try.underlying62 (s := 4) size78 j (wsub2 (by omega)) hgo (o' := j * 4) (by omega) ?_
            refine H.loadOwnAgg 1 rfl encN_length agg78 size78 j rfl hx ?_
            refine H.alloc 78 zero78 rfl ?_
            clear H
            intro g10 w10 H
            refine H.storeAll 0 rfl size78 rfl (fun v hv => encN_one (m, true) v hv) ?_
            clear H
            intro w11 H
            refine fieldAddr_by (fa78_3 _) ?_
            refine H.load 0 rfl agg4 rfl ?_
            refine bin_eql_bool Try.underlying4 ?_
            iterate 14 refine cond_no rfl ?_
            exact ⟨j + 1, by show N.length - (j + 1) < N.length - j; omega, ⟨hupj, trivial⟩, by show j + 1 ≤ N.length; omega, H.forget⟩
          | false =>
            replace hsl : slot (ab N) j = some m := hsl
            refine call_fn (c72_a j (by omega) m hsl _ (H.get 2 rfl)) ?_
            rintro _ w6 ⟨rfl, hk⟩
            replace H := H.same hk
            clear hk
            refine fieldAddr_by (fa64_1 _) ?_
            refine H.load 0 rfl agg62 rfl ?_
            refine idxAddr_sl Try.underlying62 (s := 4) size78 j (wsub2 (by omega)) hgo (o' := j * 4) (by omega) ?_
            refine H.loadOwnAgg 1 rfl encN_length agg78 size78 j rfl hx ?_
            refine H.alloc 78 zero78 rfl ?_
            clear H
            intro g10 w10 H
            refine H.storeAll 0 rfl size78 rfl (fun v hv => encN_one (m, false) v hv) ?_
            clear H
            intro w11 H
            refine fieldAddr_by (fa78_3 _) ?_
            refine H.load 0 rfl agg4 rfl ?_
            refine bin_eql_bool Try.underlying4 ?_
            iterate 2 refine cond_no rfl ?_
            iterate 2 refine cond_yes rfl ?_
            refine fieldAddr_by (fa78_0 _) ?_
            refine cond_yes rfl ?_
            refine H.load 0 rfl agg3 rfl ?_
            iterate 2 refine cond_yes rfl ?_
            iterate 2 refine cond_no (bne_self_eq_false _) ?_
            refine fieldAddr_by (fa78_1 _) ?_
            refine cond_no (bne_self_eq_false _) ?_
            refine H.load 0 rfl agg3 rfl ?_
            refine cond_no (bne_self_eq_false _) ?_
            refine cond_yes rfl ?_
            refine cond_no (bne_self_eq_false _) ?_
            refine cond_yes rfl ?_
            iterate 2 refine cond_no (bne_self_eq_false _) ?_
            refine fieldAddr_by (fa78_2 _) ?_
            refine cond_no (bne_self_eq_false _) ?_
            refine H.load 0 rfl agg3 rfl ?_
            refine cond_no (bne_self_eq_false _) ?_
            refine cond_yes rfl ?_
            refine cond_no (bne_self_eq_false _) ?_
            refine cond_no rfl ?_
            refine cond_yes rfl ?_
            refine cond_no rfl ?_
            refine cond_no (bne_self_eq_false _) ?_
            exact ⟨j + 1, by show N.length - (j + 1) < N.length - j; omega, ⟨hupj, trivial⟩, by show j + 1 ≤ N.length; omega, H.forget⟩
        · refine cond_no (decide_eq_false (by rw [hw2]; omega)) ?_
          exact ⟨(), trivial, H⟩
      · rintro ⟨⟩ u w5 H1
        replace H : Hp _ _ _ _ _ := H1
        clear H1
        refine H.loadAll 0 rfl agg64 size64 ?_
        refine H.buildOne T32 rfl ?_
        clear H
        intro g7 w7 H
        refine call_fn (c73 room N B c [id] (some ⟨g7, 0, none⟩) 1 _ (by omega) (by show 1 ≤ 100000; omega) (own_Sl (H.get 2 rfl)) (blk_Sl1 (H.get 0 rfl) (blk_lt (H.get 0 rfl))) hok.inv) ?_
        rintro _ w8 ⟨gm, M, rfl, hMl, hM, hn⟩
        replace H := H.addNew hn
        clear hn
        refine call_fn (c74 hok id hid.2 _ (H.get 4 rfl)) ?_
        rintro _ w9 ⟨Br, cr, rfl, hn⟩
        replace H := H.addNew hn
        clear hn
        have hmet : ∀ x, mb (markA (ab N) 26 id (List.replicate (ab N).length false)) x = mb M (x + 2) := fun x => by
          rw [Bool.eq_iff_iff, reach_spec hok.inv, hM]; simp
        have hrl : reachL (ab N) id = reachTo (markA (ab N) 26 id (List.replicate (ab N).length false)) N.length := by unfold reachL; rw [ab_length]
        rw [hrl] at H ⊢
        generalize markA (ab N) 26 id (List.replicate (ab N).length false) = met at H hmet hrl
        clear hrl
        have hrle : ∀ j, (reachTo met j).length ≤ j := fun j => reachTo_le _ _
        refine cut_rule (γ := Unit) _ rfl (fun _ => [(25, .int .i64 0)]) (fun _ w' => Hp.cl H w') ⟨(), ⟨rfl, trivial⟩, H⟩ ?_
        rintro ⟨⟩ u w10 H1
        replace H : Hp _ _ _ _ _ := H1
        clear H1
        refine cut_rule (γ := Unit) _ rfl (fun _ => [(25, .int .i64 ((reachTo met N.length).length : Int))]) (fun _ w' => Hp.cl H w') ?_ ?_
        · refine loop_rule (γ := Nat) _ rfl (fun j => [(26, .int .i64 ((j : Int) + 2)), (25, .int .i64 ((reachTo met j).length : Int))]) (fun j w' => j ≤ N.length ∧ Hp.cl H w') (fun j => N.length - j) 0 ⟨rfl, rfl, trivial⟩ ⟨Nat.zero_le _, H⟩ ?_
          rintro j u w11 ⟨hj, H1⟩
          replace H : Hp _ _ _ _ _ := H1
          refine len_sl Try.underlying29 ?_
          have hupj := upj (j := j) (by omega)
          have hrj := hrle j
          by_cases hgo : j < N.length
          · refine cond_yes (decide_eq_true (by omega)) ?_
            refine idxAddr_sl Try.underlying29 (s := 1) size4 (j + 2) (by omega) (by omega) (o' := j + 2) (by omega) ?_
            refine H.loadOwn 1 rfl agg4 (bls_mb (by omega)) ?_
            have hmj := hmet j
            refine cond_split (fun hb => ?_) (fun hb => ?_)
            · have hat := reach_at hgo (hmj.trans hb)
              have hlt := (List.getElem?_eq_some_iff.1 hat).1
              have hsuc := reachTo_succ met j
              rw [if_pos (hmj.trans hb)] at hsuc
              obtain ⟨gr, rfl⟩ := H.ownA 0 rfl (by omega)
              have hget : (ints (reachTo met N.length))[(reachTo met j).length]? = some (.int .i64 ((j : Int) + 2)) := by rw [ints, List.getElem?_map, hat]; rfl
              refine len_sl Try.underlying32 ?_
              iterate 3 refine cond_no (decide_eq_false (by omega)) ?_
              refine idxAddr_sl Try.underlying32 (s := 1) size3 (reachTo met j).length rfl hlt (o' := (reachTo met j).length) (by omega) ?_
              refine cond_no (decide_eq_false (by omega)) ?_
              refine H.loadOwn 0 rfl agg3 hget ?_
              iterate 3 refine cond_no (decide_eq_false (by omega)) ?_
              refine cond_no (bne_self_eq_false _) ?_
              exact ⟨j + 1, by show N.length - (j + 1) < N.length - j; omega, ⟨hupj, by rw [hsuc, List.length_append]; exact up (by omega), trivial⟩, by show j + 1 ≤ N.length; omega, H⟩
            · have hsuc := reachTo_succ met j
              rw [if_neg (by rw [hmj, hb]; decide)] at hsuc
              exact ⟨j + 1, by show N.length - (j + 1) < N.length - j; omega, ⟨hupj, by rw [hsuc]; rfl, trivial⟩, by show j + 1 ≤ N.length; omega, H⟩
          · obtain rfl : j = N.length := by omega
            refine cond_no (decide_eq_false (by omega)) ?_
            exact ⟨(), ⟨rfl, trivial⟩, H⟩
        · rintro ⟨⟩ u w11 H1
          replace H : Hp _ _ _ _ _ := H1
          clear H1
          refine len_sl Try.underlying32 ?_
          refine cond_yes (beq_self_eq_true _) ?_
          refine call_fn (c65 _) ?_ 
          rintro _ w13 ⟨rfl, hk13⟩ 
          replace H := H.same hk13
          refine cond_yes (beq_self_eq_true _) ?_
          exact ⟨rfl, H.keeps⟩
theorem law9 (room : Int) (v1 : Value) (id : Int) (hid : okI id) (la : List AskV) (w : World) (h1 : AsksAt w v1 la) : Fun Try.prog 9 [.int .i64 room, v1, .int .i64 id] w fun v w' => v = .bool true ∧ Same w w' := by
  rcases Int.lt_or_le room 0 with h0 | h0
  · exact law9_b room (.inl h0) v1 id w
  rcases Int.lt_or_le 20000 room with h3 | h3
  · exact law9_b room (.inr h3) v1 id w
  obtain ⟨B1, c1, rfl, hl1, hk1, hs1⟩ := h1
  exact law9_m room h0 h3 la B1 c1 id hid w hk1 hs1
end Go.Proofs.Ytjebpngdinbckaa
end

section
/- Coverings: rows of columns, how they lie in memory, and the small functions on rows. -/
namespace Go.Proofs.Ytjebpngdinbckaa
open Go.Dk
attribute [local irreducible] IntKind.wrap

theorem not_snoc {k x : Int} {l : List Int} (h : k ∉ l) (hx : x ≠ k) : k ∉ l ++ [x] := by
  simp only [List.mem_append, List.mem_singleton]
  rintro (h' | h')
  · exact h h'
  · exact hx h'.symm
theorem ent174 : enters Try.prog 174 = true := by kernel_rfl
theorem c174 (ks : List Int) (B : Option Addr) (c : Nat) (k : Int) (w : World) (hl : ks.length ≤ 1000000000) (hs : Sl w (.slice B ks.length c) 1 ks.length (intsI ks)) :
    Fun Try.prog 174 [.slice B ks.length c, .int .i64 k] w fun v w' => v = .bool (decide (k ∈ ks)) ∧ Same w w' := by
  refine fun_of_W (N := 17) Try.func174 ent174 rfl rfl rfl (by simp) ?_
  have H := Hp.start0 w
  refine cut_rule (γ := Unit) _ rfl (fun _ => []) (fun _ w' => Hp.cl H w') ⟨(), trivial, H⟩ ?_
  rintro ⟨⟩ u w0 H1
  replace H : Hp _ _ _ _ _ := H1
  clear H1
  refine cut_rule (γ := Unit) _ rfl (fun _ => []) (fun _ w' => k ∉ ks ∧ Hp.cl H w') ?_ ?_
  · refine len_sl Try.underlying32 ?_
    refine loop_rule (γ := Nat) _ rfl (fun i => [(9, .int .i64 (i : Int))]) (fun i w' => (i ≤ ks.length ∧ k ∉ ks.take i) ∧ Hp.cl H w') (fun i => ks.length - i) 0 ⟨rfl, trivial⟩ ⟨⟨Nat.zero_le _, by simp⟩, H⟩ ?_
    rintro i u w1 ⟨⟨hi, hno⟩, H1⟩
    replace H : Hp _ _ _ _ _ := H1
    refine cond_dec (fun h7 => ?_) (fun h7 => ?_)
    · obtain ⟨x, hx⟩ : ∃ x, ks[i]? = some x := ⟨_, List.getElem?_eq_getElem (by omega)⟩
      obtain ⟨g0, o0, rfl⟩ := hs.A (by omega)
      have hget : (intsI ks)[i]? = some (.int .i64 x) := by rw [intsI, List.getElem?_map, hx]; rfl
      have htk : ks.take (i + 1) = ks.take i ++ [x] := by rw [List.take_add_one, hx]; rfl
      refine idxAddr_sl Try.underlying32 (s := 1) size3 i rfl (by omega) (o' := o0 + i) (by omega) ?_
      refine H.loadSl (i := i) hs agg3 _ rfl hget ?_
      refine cond_beq (fun h4 => ?_) (fun h4 => ?_)
      · refine ⟨congrArg Value.bool ?_, H.keeps⟩
        exact (decide_eq_true (by rw [← h4]; exact List.mem_of_getElem? hx)).symm
      · exact ⟨i + 1, by show ks.length - (i + 1) < ks.length - i; omega, ⟨up (by omega), trivial⟩, ⟨by show i + 1 ≤ ks.length; omega, by rw [htk]; exact not_snoc hno h4⟩, H⟩
    · have : i = ks.length := by omega
      subst this
      rw [List.take_length] at hno
      exact ⟨(), trivial, hno, H⟩
  · rintro ⟨⟩ u w1 ⟨hno, H1⟩
    exact ⟨by rw [decide_eq_false hno]; rfl, H1.keeps⟩
theorem ent127 : enters Try.prog 127 = true := by kernel_rfl
theorem c127 (ks : List Int) (B : Option Addr) (c : Nat) (k : Int) (w : World) (hl : ks.length ≤ 1000000000) (hs : Sl w (.slice B ks.length c) 1 ks.length (intsI ks)) :
    Fun Try.prog 127 [.slice B ks.length c, .int .i64 k] w fun v w' => v = .bool (decide (k ∈ ks)) ∧ Same w w' := by
  refine fun_of_W (N := 18) Try.func127 ent127 rfl rfl rfl (by simp) ?_
  have H := Hp.start0 w
  refine cut_rule (γ := Unit) _ rfl (fun _ => []) (fun _ w' => Hp.cl H w') ⟨(), trivial, H⟩ ?_
  rintro ⟨⟩ u w0 H1
  replace H : Hp _ _ _ _ _ := H1
  clear H1
  refine cut_rule (γ := Unit) _ rfl (fun _ => []) (fun _ w' => k ∉ ks ∧ Hp.cl H w') ?_ ?_
  · refine loop_rule (γ := Nat) _ rfl (fun i => [(5, .int .i64 (i : Int))]) (fun i w' => (i ≤ ks.length ∧ k ∉ ks.take i) ∧ Hp.cl H w') (fun i => ks.length - i) 0 ⟨rfl, trivial⟩ ⟨⟨Nat.zero_le _, by simp⟩, H⟩ ?_
    rintro i u w1 ⟨⟨hi, hno⟩, H1⟩
    replace H : Hp _ _ _ _ _ := H1
    refine len_sl Try.underlying32 ?_
    refine cond_dec (fun h7 => ?_) (fun h7 => ?_)
    · obtain ⟨x, hx⟩ : ∃ x, ks[i]? = some x := ⟨_, List.getElem?_eq_getElem (by omega)⟩
      obtain ⟨g0, o0, rfl⟩ := hs.A (by omega)
      have hget : (intsI ks)[i]? = some (.int .i64 x) := by rw [intsI, List.getElem?_map, hx]; rfl
      have htk : ks.take (i + 1) = ks.take i ++ [x] := by rw [List.take_add_one, hx]; rfl
      refine idxAddr_sl Try.underlying32 (s := 1) size3 i rfl (by omega) (o' := o0 + i) (by omega) ?_
      refine H.loadSl (i := i) hs agg3 _ rfl hget ?_
      refine cond_beq (fun h4 => ?_) (fun h4 => ?_)
      · refine ⟨congrArg Value.bool ?_, H.keeps⟩
        exact (decide_eq_true (by rw [← h4]; exact List.mem_of_getElem? hx)).symm
      · exact ⟨i + 1, by show ks.length - (i + 1) < ks.length - i; omega, ⟨up (by omega), trivial⟩, ⟨by show i + 1 ≤ ks.length; omega, by rw [htk]; exact not_snoc hno h4⟩, H⟩
    · have : i = ks.length := by omega
      subst this
      rw [List.take_length] at hno
      exact ⟨(), trivial, hno, H⟩
  · rintro ⟨⟩ u w1 ⟨hno, H1⟩
    exact ⟨by rw [decide_eq_false hno]; rfl, H1.keeps⟩
theorem all_snoc {l : List Int} {i : Nat} {x : Int} (p : Int → Bool) (hx : l[i]? = some x) : (l.take (i + 1)).all p = ((l.take i).all p && p x) := by
  rw [List.take_add_one, hx]; simp
theorem ent175 : enters Try.prog 175 = true := by kernel_rfl
theorem c175 (a b : List Int) (A B : Option Addr) (ca cb : Nat) (w : World) (hl : a.length ≤ 1000000000) (hl' : b.length ≤ 1000000000) (ha : Sl w (.slice A a.length ca) 1 a.length (intsI a)) (hb : Sl w (.slice B b.length cb) 1 b.length (intsI b)) :
    Fun Try.prog 175 [.slice A a.length ca, .slice B b.length cb] w fun v w' => v = .bool (withinB a b) ∧ Same w w' := by
  refine fun_of_W (N := 18) Try.func175 ent175 rfl rfl rfl (by simp) ?_
  have H := Hp.start0 w
  refine cut_rule (γ := Unit) _ rfl (fun _ => []) (fun _ w' => Hp.cl H w') ⟨(), trivial, H⟩ ?_
  rintro ⟨⟩ u w0 H1
  replace H : Hp _ _ _ _ _ := H1
  clear H1
  refine cut_rule (γ := Unit) _ rfl (fun _ => []) (fun _ w' => withinB a b = true ∧ Hp.cl H w') ?_ ?_
  · refine len_sl Try.underlying32 ?_
    refine loop_rule (γ := Nat) _ rfl (fun i => [(9, .int .i64 (i : Int))]) (fun i w' => (i ≤ a.length ∧ (a.take i).all (fun k => decide (k ∈ b)) = true) ∧ Hp.cl H w') (fun i => a.length - i) 0 ⟨rfl, trivial⟩ ⟨⟨Nat.zero_le _, by simp⟩, H⟩ ?_
    rintro i u w1 ⟨⟨hi, hyes⟩, H1⟩
    replace H : Hp _ _ _ _ _ := H1
    refine cond_dec (fun h7 => ?_) (fun h7 => ?_)
    · obtain ⟨x, hx⟩ : ∃ x, a[i]? = some x := ⟨_, List.getElem?_eq_getElem (by omega)⟩
      obtain ⟨g0, o0, rfl⟩ := ha.A (by omega)
      have hget : (intsI a)[i]? = some (.int .i64 x) := by rw [intsI, List.getElem?_map, hx]; rfl
      have hsn := all_snoc (fun k => decide (k ∈ b)) hx
      rw [hyes, Bool.true_and] at hsn
      refine idxAddr_sl Try.underlying32 (s := 1) size3 i rfl (by omega) (o' := o0 + i) (by omega) ?_
      refine H.loadSl (i := i) ha agg3 _ rfl hget ?_
      refine call_fn (c174 b B cb x _ hl' (hb.same H.keeps)) ?_ 
      rintro _ w4 ⟨rfl, hk⟩ 
      replace H := H.same hk 
      clear hk
      refine cond_split (fun h5 => ?_) (fun h5 => ?_)
      · refine ⟨congrArg Value.bool ?_, H.keeps⟩
        have h5' : x ∉ b := by simpa using h5
        symm
        rw [Bool.eq_false_iff]
        exact fun hh => h5' (withinB_iff.1 hh x (List.mem_of_getElem? hx))
      · exact ⟨i + 1, by show a.length - (i + 1) < a.length - i; omega, ⟨up (by omega), trivial⟩, ⟨by show i + 1 ≤ a.length; omega, by rw [hsn]; simpa using h5⟩, H⟩
    · have : i = a.length := by omega
      subst this
      rw [List.take_length] at hyes
      exact ⟨(), trivial, hyes, H⟩
  · rintro ⟨⟩ u w1 ⟨hno, H1⟩
    exact ⟨by rw [hno]; rfl, H1.keeps⟩
theorem ent177 : enters Try.prog 177 = true := by kernel_rfl
theorem cnt_snoc {l : List Int} {i : Nat} {x : Int} (p : Int → Bool) (hx : l[i]? = some x) : (l.take (i + 1)).countP p = (l.take i).countP p + if p x then 1 else 0 := by
  rw [List.take_add_one, hx, List.countP_append]
  cases h : p x <;> simp [h]
theorem within_cnt (a b : List Int) : (((a.countP fun k => decide (k ∈ b) : Nat) : Int) == (a.length : Int)) = withinB a b := by
  rw [Bool.eq_iff_iff, beq_iff_eq, withinB_iff, Int.ofNat_inj, List.countP_eq_length]
  simp
theorem c177 (a b : List Int) (A B : Option Addr) (ca cb : Nat) (w : World) (hl : a.length ≤ 1000000000) (hl' : b.length ≤ 1000000000) (ha : Sl w (.slice A a.length ca) 1 a.length (intsI a)) (hb : Sl w (.slice B b.length cb) 1 b.length (intsI b)) :
    Fun Try.prog 177 [.slice A a.length ca, .slice B b.length cb] w fun v w' => v = .bool (withinB a b) ∧ Same w w' := by
  refine fun_of_W (N := 25) Try.func177 ent177 rfl rfl rfl (by simp) ?_
  have H := Hp.start0 w
  refine cut_rule (γ := Unit) _ rfl (fun _ => []) (fun _ w' => Hp.cl H w') ⟨(), trivial, H⟩ ?_
  rintro ⟨⟩ u w0 H1
  replace H : Hp _ _ _ _ _ := H1
  clear H1
  refine cut_rule (γ := Unit) _ rfl (fun _ => [(5, .int .i64 0)]) (fun _ w' => Hp.cl H w') ⟨(), ⟨rfl, trivial⟩, H⟩ ?_
  rintro ⟨⟩ u w0 H1
  replace H : Hp _ _ _ _ _ := H1
  clear H1
  refine cut_rule (γ := Unit) _ rfl (fun _ => [(5, .int .i64 ((a.countP fun k => decide (k ∈ b) : Nat) : Int))]) (fun _ w' => Hp.cl H w') ?_ ?_
  · refine loop_rule (γ := Nat) _ rfl (fun i => [(6, .int .i64 (i : Int)), (5, .int .i64 (((a.take i).countP fun k => decide (k ∈ b) : Nat) : Int))]) (fun i w' => i ≤ a.length ∧ Hp.cl H w') (fun i => a.length - i) 0 ⟨rfl, rfl, trivial⟩ ⟨Nat.zero_le _, H⟩ ?_
    rintro i u w1 ⟨hi, H1⟩
    replace H : Hp _ _ _ _ _ := H1
    refine len_sl Try.underlying32 ?_
    refine cond_dec (fun h7 => ?_) (fun h7 => ?_)
    · obtain ⟨x, hx⟩ : ∃ x, a[i]? = some x := ⟨_, List.getElem?_eq_getElem (by omega)⟩
      obtain ⟨g0, o0, rfl⟩ := ha.A (by omega)
      have hget : (intsI a)[i]? = some (.int .i64 x) := by rw [intsI, List.getElem?_map, hx]; rfl
      have hsn := cnt_snoc (fun k => decide (k ∈ b)) hx
      have hcl : (a.take i).countP (fun k => decide (k ∈ b)) ≤ 1000000000 := Nat.le_trans List.countP_le_length (by rw [List.length_take]; omega)
      refine idxAddr_sl Try.underlying32 (s := 1) size3 i rfl (by omega) (o' := o0 + i) (by omega) ?_
      refine H.loadSl (i := i) ha agg3 _ rfl hget ?_
      refine call_fn (c127 b B cb x _ hl' (hb.same H.keeps)) ?_ 
      rintro _ w4 ⟨rfl, hk⟩ 
      replace H := H.same hk 
      clear hk
      refine cond_dec (fun h5 => ?_) (fun h5 => ?_)
      · rw [decide_eq_true h5, if_pos rfl] at hsn
        exact ⟨i + 1, by show a.length - (i + 1) < a.length - i; omega, ⟨up (by omega), by rw [hsn]; exact up (by omega), trivial⟩, by show i + 1 ≤ a.length; omega, H⟩
      · rw [decide_eq_false h5, if_neg (by decide), Nat.add_zero] at hsn
        exact ⟨i + 1, by show a.length - (i + 1) < a.length - i; omega, ⟨up (by omega), by rw [hsn]; rfl, trivial⟩, by show i + 1 ≤ a.length; omega, H⟩
    · have : i = a.length := by omega
      subst this
      rw [List.take_length]
      exact ⟨(), ⟨rfl, trivial⟩, H⟩
  · rintro ⟨⟩ u w1 H1
    replace H : Hp _ _ _ _ _ := H1
    clear H1
    refine len_sl Try.underlying32 ?_
    exact ⟨by rw [← within_cnt]; rfl, H.keeps⟩
end Go.Proofs.Ytjebpngdinbckaa
end

section
/- Coverings in memory. -/
namespace Go.Proofs.Ytjebpngdinbckaa
open Go.Dk
attribute [local irreducible] IntKind.wrap

/-- A row that lies in S. -/
def rowV (S : Nat → Prop) (w : World) (v : Value) (ks : List Int) : Prop := ∃ B c, v = .slice B ks.length c ∧ (sl S (.slice B ks.length c) 1 ks.length (intsI ks)).ok w
def matOk (S : Nat → Prop) (v : Value) (R : Mat) (w : World) : Prop :=
  ∃ B c vs, v = .slice B R.length c ∧ (sl S (.slice B R.length c) 1 R.length vs).ok w ∧ ∀ (i : Nat) (u : Value) (ks : List Int), vs[i]? = some u → R[i]? = some ks → rowV S w u ks
/-- A covering's rows: a slice of rows, all in S. -/
def MatR (S : Nat → Prop) (v : Value) (R : Mat) : Res :=
  ⟨S, matOk S v R, fun w w' h ⟨B, c, vs, hv, hs, hr⟩ => ⟨B, c, vs, hv, (sl _ _ _ _ _).stable w w' h hs, fun i u ks h1 h2 => by
      obtain ⟨B', c', hv', hs'⟩ := hr i u ks h1 h2
      exact ⟨B', c', hv', (sl _ _ _ _ _).stable w w' h hs'⟩⟩⟩
theorem MatR.mono {S S' : Nat → Prop} {v : Value} {R : Mat} {w : World} (h : matOk S v R w) (hS : ∀ g, S g → S' g) : matOk S' v R w := by
  obtain ⟨B, c, vs, hv, hs, hr⟩ := h
  exact ⟨B, c, vs, hv, sl.mono hs hS, fun i u ks h1 h2 => by
    obtain ⟨B', c', hv', hs'⟩ := hr i u ks h1 h2
    exact ⟨B', c', hv', sl.mono hs' hS⟩⟩
/-- A covering's rows at a call's world. -/
def MatAt (w : World) (v : Value) (R : Mat) : Prop := matOk (fun g => g < w.heap.size) v R w
theorem MatAt.same {w w' : World} {v : Value} {R : Mat} (h : MatAt w v R) (hk : Same w w') : MatAt w' v R :=
  MatR.mono ((MatR (fun g => g < w.heap.size) v R).stable w w' (fun g hg => hk.old g hg id) h) fun _ hg => Nat.lt_of_lt_of_le hg hk.size
/-- Opened: the headers, and each row. -/
theorem MatAt.openM {w : World} {v : Value} {R : Mat} (h : MatAt w v R) : ∃ B c vs, v = .slice B R.length c ∧ Sl w (.slice B R.length c) 1 R.length vs ∧
    ∀ (i : Nat) (ks : List Int), R[i]? = some ks → ∃ B' c', vs[i]? = some (.slice B' ks.length c') ∧ Sl w (.slice B' ks.length c') 1 ks.length (intsI ks) := by
  obtain ⟨B, c, vs, hv, hs, hr⟩ := h
  refine ⟨B, c, vs, hv, hs, fun i ks hi => ?_⟩
  have hil := (List.getElem?_eq_some_iff.1 hi).1
  have hvl : vs.length = R.length := by have := hs.1; omega
  have hu : vs[i]? = some (vs[i]'(by omega)) := List.getElem?_eq_getElem (by omega)
  obtain ⟨B', c', hv', hs'⟩ := hr i _ ks hu hi
  exact ⟨B', c', by rw [hu, hv'], hs'⟩
theorem ent91 : enters Try.prog 91 = true := by kernel_rfl
theorem c91 (a b : List Int) (A B : Option Addr) (ca cb : Nat) (w : World) (hl : a.length ≤ 1000000000) (hl' : b.length ≤ 1000000000) (ha : Sl w (.slice A a.length ca) 1 a.length (intsI a)) (hb : Sl w (.slice B b.length cb) 1 b.length (intsI b)) :
    Fun Try.prog 91 [.slice A a.length ca, .slice B b.length cb] w fun v w' => v = .bool (decide (a = b)) ∧ Same w w' := by
  refine fun_of_W (N := 26) Try.func91 ent91 rfl rfl rfl (by simp) ?_
  have H := Hp.start0 w
  refine cut_rule (γ := Unit) _ rfl (fun _ => []) (fun _ w' => Hp.cl H w') ⟨(), trivial, H⟩ ?_
  rintro ⟨⟩ u w0 H1
  replace H : Hp _ _ _ _ _ := H1
  clear H1
  by_cases hlen : a.length = b.length
  · refine len_sl Try.underlying32 ?_
    refine len_sl Try.underlying32 ?_
    refine cond_no (by rw [hlen]; exact bne_self_eq_false _) ?_
    refine cut_rule (γ := Unit) _ rfl (fun _ => []) (fun _ w' => a = b ∧ Hp.cl H w') ?_ ?_
    · refine loop_rule (γ := Nat) _ rfl (fun i => [(5, .int .i64 (i : Int))]) (fun i w' => (i ≤ a.length ∧ a.take i = b.take i) ∧ Hp.cl H w') (fun i => a.length - i) 0 ⟨rfl, trivial⟩ ⟨⟨Nat.zero_le _, rfl⟩, H⟩ ?_
      rintro i u w1 ⟨⟨hi, heq⟩, H1⟩
      replace H : Hp _ _ _ _ _ := H1
      refine len_sl Try.underlying32 ?_
      refine cond_dec (fun h7 => ?_) (fun h7 => ?_)
      · obtain ⟨x, hx⟩ : ∃ x, a[i]? = some x := ⟨_, List.getElem?_eq_getElem (by omega)⟩
        obtain ⟨y, hy⟩ : ∃ y, b[i]? = some y := ⟨_, List.getElem?_eq_getElem (by omega)⟩
        obtain ⟨g0, o0, rfl⟩ := ha.A (by omega)
        obtain ⟨g1, o1, rfl⟩ := hb.A (by omega)
        have hget : (intsI a)[i]? = some (.int .i64 x) := by rw [intsI, List.getElem?_map, hx]; rfl
        have hget' : (intsI b)[i]? = some (.int .i64 y) := by rw [intsI, List.getElem?_map, hy]; rfl
        have hta : a.take (i + 1) = a.take i ++ [x] := by rw [List.take_add_one, hx]; rfl
        have htb : b.take (i + 1) = b.take i ++ [y] := by rw [List.take_add_one, hy]; rfl
        refine H.draw fol (by kernel_rfl) ?_
        clear H
        intro w2 H
        refine quiet _ (fun w H => idxAddr_sl Try.underlying32 (s := 1) size3 i rfl (by omega) (o' := o0 + i) (by omega) ⟨rfl, rfl⟩) ?_
        refine quiet _ (fun w H => H.loadSl (i := i) ha agg3 _ rfl hget ⟨rfl, rfl⟩) ?_
        refine quiet _ (fun w H => idxAddr_sl Try.underlying32 (s := 1) size3 i rfl (by omega) (o' := o1 + i) (by omega) ⟨rfl, rfl⟩) ?_
        refine quiet _ (fun w H => H.loadSl (i := i) hb agg3 _ rfl hget' ⟨rfl, rfl⟩) ?_
        refine cond_bne (fun h8 => ?_) (fun h8 => ?_)
        · refine ⟨congrArg Value.bool ?_, H.keeps⟩
          symm
          rw [decide_eq_false_iff_not]
          rintro rfl
          rw [hx] at hy
          injection hy with hy
          exact h8 hy
        · exact ⟨i + 1, by show a.length - (i + 1) < a.length - i; omega, ⟨up (by omega), trivial⟩, ⟨by show i + 1 ≤ a.length; omega, by rw [hta, htb, heq, h8]⟩, H⟩
      · have : i = a.length := by omega
        subst this
        rw [List.take_length, hlen, List.take_length] at heq
        exact ⟨(), trivial, heq, H⟩
    · rintro ⟨⟩ u w1 ⟨heq, H1⟩
      exact ⟨by rw [decide_eq_true heq]; rfl, H1.keeps⟩
  · iterate 2 refine len_sl Try.underlying32 ?_
    refine cond_yes (bne_iff_ne.2 (by omega)) ?_
    refine ⟨congrArg Value.bool ?_, H.keeps⟩
    exact (decide_eq_false fun h => hlen (by rw [h])).symm
end Go.Proofs.Ytjebpngdinbckaa
end

section
/- Coverings: the same rows; right ones. -/
namespace Go.Proofs.Ytjebpngdinbckaa
open Go.Dk
attribute [local irreducible] IntKind.wrap

theorem agg89 : aggT Try.prog 89 = some false := by kernel_rfl
theorem aggrow : aggT Try.prog 32 = some false := by kernel_rfl
theorem size32 : sizeT Try.prog 32 = some 1 := by kernel_rfl
theorem ent85 : enters Try.prog 85 = true := by kernel_rfl
theorem c85 (R T : Mat) (v1 v2 : Value) (w : World) (hl : R.length ≤ 1000000000) (hlr : ∀ r ∈ R, r.length ≤ 1000000000) (hlt : ∀ r ∈ T, r.length ≤ 1000000000) (h1 : MatAt w v1 R) (h2 : MatAt w v2 T) :
    Fun Try.prog 85 [v1, v2] w fun v w' => v = .bool (decide (R = T)) ∧ Same w w' := by
  refine fun_of_W (N := 27) Try.func85 ent85 rfl rfl rfl (by simp) ?_
  have H := Hp.start0 w
  obtain ⟨A, ca, va, rfl, ha, hra⟩ := h1.openM
  obtain ⟨B, cb, vb, rfl, hb, hrb⟩ := h2.openM
  refine cut_rule (γ := Unit) _ rfl (fun _ => []) (fun _ w' => Hp.cl H w') ⟨(), trivial, H⟩ ?_
  rintro ⟨⟩ u w0 H1
  replace H : Hp _ _ _ _ _ := H1
  clear H1
  by_cases hlen : R.length = T.length
  · refine len_sl Try.underlying89 ?_
    refine len_sl Try.underlying89 ?_
    refine cond_no (by rw [hlen]; exact bne_self_eq_false _) ?_
    refine cut_rule (γ := Unit) _ rfl (fun _ => []) (fun _ w' => R = T ∧ Hp.cl H w') ?_ ?_
    · refine loop_rule (γ := Nat) _ rfl (fun i => [(5, .int .i64 (i : Int))]) (fun i w' => (i ≤ R.length ∧ R.take i = T.take i) ∧ Hp.cl H w') (fun i => R.length - i) 0 ⟨rfl, trivial⟩ ⟨⟨Nat.zero_le _, rfl⟩, H⟩ ?_
      rintro i u w1 ⟨⟨hi, heq⟩, H1⟩
      replace H : Hp _ _ _ _ _ := H1
      refine len_sl Try.underlying89 ?_
      refine cond_dec (fun h7 => ?_) (fun h7 => ?_)
      · obtain ⟨x, hx⟩ : ∃ x, R[i]? = some x := ⟨_, List.getElem?_eq_getElem (by omega)⟩
        obtain ⟨y, hy⟩ : ∃ y, T[i]? = some y := ⟨_, List.getElem?_eq_getElem (by omega)⟩
        obtain ⟨g0, o0, rfl⟩ := ha.A (by omega)
        obtain ⟨g1, o1, rfl⟩ := hb.A (by omega)
        obtain ⟨Bx, cx, hget, hsx⟩ := hra i x hx
        obtain ⟨By, cy, hget', hsy⟩ := hrb i y hy
        have hxl := hlr x (List.mem_of_getElem? hx)
        have hyl := hlt y (List.mem_of_getElem? hy)
        have hta : R.take (i + 1) = R.take i ++ [x] := by rw [List.take_add_one, hx]; rfl
        have htb : T.take (i + 1) = T.take i ++ [y] := by rw [List.take_add_one, hy]; rfl
        refine H.draw fol (by kernel_rfl) ?_
        clear H
        intro w3 H
        refine quiet _ (fun w H => idxAddr_sl Try.underlying89 (s := 1) size32 i rfl (by omega) (o' := o0 + i) (by omega) ⟨rfl, rfl⟩) ?_
        refine quiet _ (fun w H => H.loadSl (i := i) ha aggrow _ rfl hget ⟨rfl, rfl⟩) ?_
        refine quiet _ (fun w H => idxAddr_sl Try.underlying89 (s := 1) size32 i rfl (by omega) (o' := o1 + i) (by omega) ⟨rfl, rfl⟩) ?_
        refine quiet _ (fun w H => H.loadSl (i := i) hb aggrow _ rfl hget' ⟨rfl, rfl⟩) ?_
        refine call_fn (c91 x y Bx By cx cy _ hxl hyl (hsx.same H.keeps) (hsy.same H.keeps)) ?_
        rintro _ w4 ⟨rfl, hk4⟩
        replace H := H.same hk4
        refine ⟨.inl H, ?_⟩
        refine cond_split (fun h5 => ?_) (fun h5 => ?_)
        · refine ⟨congrArg Value.bool ?_, H.keeps⟩
          have h8' : x ≠ y := by simpa using h5
          symm
          rw [decide_eq_false_iff_not]
          rintro rfl
          rw [hx] at hy
          injection hy with hy
          exact h8' hy
        · have h8' : x = y := by simpa using h5
          exact ⟨i + 1, by show R.length - (i + 1) < R.length - i; omega, ⟨up (by omega), trivial⟩, ⟨by show i + 1 ≤ R.length; omega, by rw [hta, htb, heq, h8']⟩, H⟩
      · have : i = R.length := by omega
        subst this
        rw [List.take_length, hlen, List.take_length] at heq
        exact ⟨(), trivial, heq, H⟩
    · rintro ⟨⟩ u w1 ⟨heq, H1⟩
      exact ⟨by rw [decide_eq_true heq]; rfl, H1.keeps⟩
  · iterate 2 refine len_sl Try.underlying89 ?_
    refine cond_yes (bne_iff_ne.2 (by omega)) ?_
    refine ⟨congrArg Value.bool ?_, H.keeps⟩
    exact (decide_eq_false fun h => hlen (by rw [h])).symm
end Go.Proofs.Ytjebpngdinbckaa
end

section
/- Coverings: right ones, great ones. -/
namespace Go.Proofs.Ytjebpngdinbckaa
open Go.Dk
attribute [local irreducible] IntKind.wrap

theorem size91 : sizeT Try.prog 91 = some 2 := by kernel_rfl
theorem agg91 : aggT Try.prog 91 = some true := by kernel_rfl
theorem fa91_0 (g : Nat) (w : World) : (Instr.fieldAt 91 (.pointer (some ⟨g, 0, none⟩)) 0).run Try.prog w = .ok (.pointer (some ⟨g, 0, none⟩)) w := by kernel_rfl
theorem fa91_1 (g : Nat) (w : World) : (Instr.fieldAt 91 (.pointer (some ⟨g, 0, none⟩)) 1).run Try.prog w = .ok (.pointer (some ⟨g, 1, none⟩)) w := by kernel_rfl
/-- A covering as a value. -/
def mc (cols : Int) (v : Value) : Array Value := #[.int .i64 cols, v]
def mv (cols : Int) (v : Value) : Value := .agg (mc cols v)
def greatM (R : Mat) : Bool := R.any (fun r => decide (100 < r.length)) || decide (100 < R.length)
theorem upm {i : Nat} (hi : i + 1 < 9223372036854775808) : Value.int .i64 (IntKind.i64.wrap ((i : Int) + 1)) = Value.int .i64 ((i + 1 : Nat) : Int) := by rw [wrap_i64_in (by omega) (by omega)]; rfl
theorem ent170 : enters Try.prog 170 = true := by kernel_rfl
theorem any_snocM {R : Mat} {i : Nat} {x : List Int} (p : List Int → Bool) (hx : R[i]? = some x) : (R.take (i + 1)).any p = ((R.take i).any p || p x) := by
  rw [List.take_add_one, hx]; simp
theorem c170 (cols : Int) (R : Mat) (v1 : Value) (w : World) (hl : R.length ≤ 9223372036854775807) (h1 : MatAt w v1 R) :
    Fun Try.prog 170 [mv cols v1] w fun v w' => v = .bool (greatM R) ∧ Same w w' := by
  refine fun_of_W (N := 22) Try.func170 ent170 rfl rfl rfl (by simp) ?_
  have H := Hp.start0 w
  obtain ⟨A, ca, va, rfl, ha, hra⟩ := h1.openM
  refine H.box 91 (mv _ _) (cs := mc _ _) rfl ?_
  clear H
  intro g1 w1 H
  refine cut_rule (γ := Unit) _ rfl (fun _ => []) (fun _ w' => R.any (fun r => decide (100 < r.length)) = false ∧ Hp.cl H w') ?_ ?_
  · refine loop_rule (γ := Nat) _ rfl (fun i => [(3, .int .i64 (i : Int))]) (fun i w' => (i ≤ R.length ∧ (R.take i).any (fun r => decide (100 < r.length)) = false) ∧ Hp.cl H w') (fun i => R.length - i) 0 ⟨rfl, trivial⟩ ⟨⟨Nat.zero_le _, by simp⟩, H⟩ ?_
    rintro i u w2 ⟨⟨hi, hno⟩, H1⟩
    replace H : Hp _ _ _ _ _ := H1
    refine fieldAddr_by (fa91_1 _) ?_
    refine H.load 0 rfl agg89 rfl ?_
    refine len_sl Try.underlying89 ?_
    refine cond_dec (fun h7 => ?_) (fun h7 => ?_)
    · obtain ⟨x, hx⟩ : ∃ x, R[i]? = some x := ⟨_, List.getElem?_eq_getElem (by omega)⟩
      obtain ⟨g0, o0, rfl⟩ := ha.A (by omega)
      obtain ⟨Bx, cx, hget, hsx⟩ := hra i x hx
      have hsn := any_snocM (fun r => decide (100 < r.length)) hx
      refine fieldAddr_by (fa91_1 _) ?_
      refine H.load 0 rfl agg89 rfl ?_
      refine idxAddr_sl Try.underlying89 (s := 1) size32 i rfl (by omega) (o' := o0 + i) (by omega) ?_
      refine H.loadSl (i := i) ha aggrow _ rfl hget ?_
      refine len_sl Try.underlying32 ?_
      refine cond_dec (fun h9 => ?_) (fun h9 => ?_)
      · refine ⟨congrArg Value.bool ?_, H.keeps⟩
        unfold greatM
        rw [List.any_eq_true.2 ⟨x, List.mem_of_getElem? hx, decide_eq_true (by omega)⟩]; rfl
      · exact ⟨i + 1, by show R.length - (i + 1) < R.length - i; omega, ⟨upm (by omega), trivial⟩, ⟨by show i + 1 ≤ R.length; omega, by rw [hsn, hno, Bool.false_or]; exact decide_eq_false (by omega)⟩, H⟩
    · have : i = R.length := by omega
      subst this
      rw [List.take_length] at hno
      exact ⟨(), trivial, hno, H⟩
  · rintro ⟨⟩ u w2 ⟨hno, H1⟩
    replace H : Hp _ _ _ _ _ := H1
    clear H1
    refine fieldAddr_by (fa91_1 _) ?_
    refine H.load 0 rfl agg89 rfl ?_
    refine len_sl Try.underlying89 ?_
    exact ⟨by unfold greatM; rw [hno, Bool.false_or]; exact congrArg Value.bool (decide_eq_decide.2 (by omega)), H.keeps⟩
end Go.Proofs.Ytjebpngdinbckaa
end

section
/- Coverings: right ones. -/
namespace Go.Proofs.Ytjebpngdinbckaa
open Go.Dk
attribute [local irreducible] IntKind.wrap

def rowB (cols : Int) : Int → List Int → Bool
  | _, [] => true
  | c, k :: r => decide (c < k) && decide (k < cols) && rowB cols k r
def rightB (cols : Int) (R : Mat) : Bool := R.all (rowB cols (-1)) && (decide (0 ≤ cols) && decide (cols ≤ 4000))
theorem rowB_iff {cols : Int} : ∀ {c : Int} {r : List Int}, rowB cols c r = true ↔ Rise (c :: r) ∧ ∀ k ∈ r, k < cols
  | c, [] => by simp [rowB, Rise]
  | c, k :: r => by
    unfold rowB
    rw [Bool.and_eq_true, Bool.and_eq_true, decide_eq_true_eq, decide_eq_true_eq, rowB_iff]
    unfold Rise
    constructor
    · rintro ⟨⟨h1, h2⟩, h3, h4⟩
      refine ⟨List.pairwise_cons.2 ⟨fun x hx => ?_, h3⟩, fun x hx => ?_⟩
      · rcases List.mem_cons.1 hx with rfl | hx
        · exact h1
        · have := (List.pairwise_cons.1 h3).1 x hx; omega
      · rcases List.mem_cons.1 hx with rfl | hx
        · exact h2
        · exact h4 x hx
    · rintro ⟨h1, h2⟩
      obtain ⟨h3, h4⟩ := List.pairwise_cons.1 h1
      exact ⟨⟨h3 k (.head _), h2 k (.head _)⟩, h4, fun x hx => h2 x (.tail _ hx)⟩
theorem rightB_iff {cols : Int} {R : Mat} : rightB cols R = true ↔ RightM cols R := by
  unfold rightB
  rw [Bool.and_eq_true, Bool.and_eq_true, decide_eq_true_eq, decide_eq_true_eq, List.all_eq_true]
  constructor
  · rintro ⟨h1, h2, h3⟩
    refine ⟨fun r hr => ?_, fun r hr k hk => ?_, h2, h3⟩
    · exact (List.pairwise_cons.1 (rowB_iff.1 (h1 r hr)).1).2
    · have := rowB_iff.1 (h1 r hr)
      have h5 := (List.pairwise_cons.1 this.1).1 k hk
      exact ⟨by omega, this.2 k hk⟩
  · rintro ⟨h1, h2, h3, h4⟩
    refine ⟨fun r hr => rowB_iff.2 ⟨List.pairwise_cons.2 ⟨fun k hk => ?_, h1 r hr⟩, fun k hk => (h2 r hr k hk).2⟩, h3, h4⟩
    have := (h2 r hr k hk).1; omega
end Go.Proofs.Ytjebpngdinbckaa
end

section
/- Coverings: Right. -/
namespace Go.Proofs.Ytjebpngdinbckaa
open Go.Dk
attribute [local irreducible] IntKind.wrap

theorem ent171 : enters Try.prog 171 = true := by kernel_rfl
theorem row_step {cols c k : Int} {r : List Int} {i : Nat} (hk : r[i]? = some k) : rowB cols c (r.drop i) = (decide (c < k) && decide (k < cols) && rowB cols k (r.drop (i + 1))) := by
  have hi := (List.getElem?_eq_some_iff.1 hk).1
  have e : r[i] = k := by rw [List.getElem?_eq_getElem hi] at hk; injection hk
  rw [List.drop_eq_getElem_cons hi, e]; rfl
theorem all_snocM {R : Mat} {i : Nat} {x : List Int} (p : List Int → Bool) (hx : R[i]? = some x) : (R.take (i + 1)).all p = ((R.take i).all p && p x) := by
  rw [List.take_add_one, hx]; simp
theorem right_no {cols : Int} {R : Mat} {i : Nat} {x : List Int} (hx : R[i]? = some x) (h : rowB cols (-1) x = false) : rightB cols R = false := by
  have : R.all (rowB cols (-1)) = false := by
    rw [Bool.eq_false_iff]
    intro hh
    rw [List.all_eq_true.1 hh x (List.mem_of_getElem? hx)] at h
    cases h
  unfold rightB
  rw [this, Bool.false_and]
theorem c171 (cols : Int) (R : Mat) (v1 : Value) (w : World) (hl : R.length ≤ 1000000000) (hlr : ∀ r ∈ R, r.length ≤ 1000000000) (h1 : MatAt w v1 R) :
    Fun Try.prog 171 [mv cols v1] w fun v w' => v = .bool (rightB cols R) ∧ Same w w' := by
  refine fun_of_W (N := 41) Try.func171 ent171 rfl rfl rfl (by simp) ?_
  have H := Hp.start0 w
  obtain ⟨A, ca, va, rfl, ha, hra⟩ := h1.openM
  refine H.box 91 (mv _ _) (cs := mc _ _) rfl ?_
  clear H
  intro g1 w1 H
  refine cut_rule (γ := Unit) _ rfl (fun _ => []) (fun _ w' => R.all (rowB cols (-1)) = true ∧ Hp.cl H w') ?_ ?_
  · refine fieldAddr_by (fa91_1 _) ?_
    refine H.load 0 rfl agg89 rfl ?_
    refine len_sl Try.underlying89 ?_
    refine loop_rule (γ := Nat) _ rfl (fun i => [(11, .int .i64 (i : Int))]) (fun i w' => (i ≤ R.length ∧ (R.take i).all (rowB cols (-1)) = true) ∧ Hp.cl H w') (fun i => R.length - i) 0 ⟨rfl, trivial⟩ ⟨⟨Nat.zero_le _, by simp⟩, H⟩ ?_
    rintro i u w2 ⟨⟨hi, hyes⟩, H1⟩
    replace H : Hp _ _ _ _ _ := H1
    refine cond_dec (fun h7 => ?_) (fun h7 => ?_)
    · obtain ⟨x, hx⟩ : ∃ x, R[i]? = some x := ⟨_, List.getElem?_eq_getElem (by omega)⟩
      obtain ⟨g0, o0, rfl⟩ := ha.A (by omega)
      obtain ⟨Bx, cx, hget, hsx⟩ := hra i x hx
      have hxl := hlr x (List.mem_of_getElem? hx)
      have hsn := all_snocM (rowB cols (-1)) hx
      rw [hyes, Bool.true_and] at hsn
      refine cut_rule (γ := Unit) _ rfl (fun _ => []) (fun _ w' => rowB cols (-1) x = true ∧ Hp.cl H w') ?_ ?_
      · refine idxAddr_sl Try.underlying89 (s := 1) size32 i rfl (by omega) (o' := o0 + i) (by omega) ?_
        refine H.loadSl (i := i) ha aggrow _ rfl hget ?_
        refine len_sl Try.underlying32 ?_
        refine loop_rule (γ := Nat × Int) _ rfl (fun (j, c) => [(17, .int .i64 (j : Int)), (5, .int .i64 c)]) (fun (j, c) w' => (j ≤ x.length ∧ rowB cols (-1) x = rowB cols c (x.drop j)) ∧ Hp.cl H w') (fun (j, _) => x.length - j) (0, -1) ⟨rfl, rfl, trivial⟩ ⟨⟨Nat.zero_le _, rfl⟩, H⟩ ?_
        rintro ⟨j, c⟩ u w3 ⟨⟨hj, hrow⟩, H1⟩
        replace H : Hp _ _ _ _ _ := H1
        refine cond_dec (fun h8 => ?_) (fun h8 => ?_)
        · obtain ⟨k, hk⟩ : ∃ k, x[j]? = some k := ⟨_, List.getElem?_eq_getElem (by omega)⟩
          obtain ⟨g2, o2, rfl⟩ := hsx.A (by omega)
          have hgk : (intsI x)[j]? = some (.int .i64 k) := by rw [intsI, List.getElem?_map, hk]; rfl
          rw [row_step hk] at hrow
          refine idxAddr_sl Try.underlying32 (s := 1) size3 j rfl (by omega) (o' := o2 + j) (by omega) ?_
          refine H.loadSl (i := j) hsx agg3 _ rfl hgk ?_
          refine cond_dec (fun h6 => ?_) (fun h6 => ?_)
          · refine cond_yes (decide_eq_true (by assumption)) ?_
            iterate 3 refine cond_yes (decide_eq_true (by assumption)) ?_
            refine cond_yes rfl ?_
            refine ⟨congrArg Value.bool ?_, H.keeps⟩
            rw [decide_eq_false (show ¬ c < k by omega), Bool.false_and, Bool.false_and] at hrow
            exact (right_no hx hrow).symm
          · refine cond_no (decide_eq_false (by assumption)) ?_
            refine fieldAddr_by (fa91_0 _) ?_
            refine cond_no (decide_eq_false (by assumption)) ?_
            refine H.load 0 rfl agg3 rfl ?_
            iterate 2 refine cond_no (decide_eq_false (by assumption)) ?_
            refine cond_dec (fun h22 => ?_) (fun h22 => ?_)
            · refine ⟨congrArg Value.bool ?_, H.keeps⟩
              rw [decide_eq_false (show ¬ k < cols by omega), Bool.and_false, Bool.false_and] at hrow
              exact (right_no hx hrow).symm
            · rw [decide_eq_true (show c < k by omega), decide_eq_true (show k < cols by omega), Bool.true_and, Bool.true_and] at hrow
              exact ⟨(j + 1, k), by show x.length - (j + 1) < x.length - j; omega, ⟨up (by omega), rfl, trivial⟩, ⟨by show j + 1 ≤ x.length; omega, hrow⟩, H⟩
        · have : j = x.length := by omega
          subst this
          rw [List.drop_length] at hrow
          exact ⟨(), trivial, hrow, H⟩
      · rintro ⟨⟩ u w3 ⟨hrow, H1⟩
        exact ⟨i + 1, by show R.length - (i + 1) < R.length - i; omega, ⟨up (by omega), trivial⟩, ⟨by show i + 1 ≤ R.length; omega, by rw [hsn]; exact hrow⟩, H1⟩
    · have : i = R.length := by omega
      subst this
      rw [List.take_length] at hyes
      exact ⟨(), trivial, hyes, H⟩
  · rintro ⟨⟩ u w2 ⟨hyes, H1⟩
    replace H : Hp _ _ _ _ _ := H1
    clear H1
    refine fieldAddr_by (fa91_0 _) ?_
    refine H.load 0 rfl agg3 rfl ?_
    refine cond_dec (fun h5 => ?_) (fun h5 => ?_)
    · refine fieldAddr_by (fa91_0 _) ?_
      refine cond_yes (decide_eq_true (by assumption)) ?_
      refine H.load 0 rfl agg3 rfl ?_
      iterate 2 refine cond_yes (decide_eq_true (by assumption)) ?_
      refine ⟨congrArg Value.bool ?_, H.keeps⟩
      unfold rightB
      rw [hyes, Bool.true_and, decide_eq_true (show 0 ≤ cols from h5), Bool.true_and]
    · refine cond_no (decide_eq_false (by assumption)) ?_
      iterate 2 refine cond_no (decide_eq_false (by assumption)) ?_
      refine ⟨congrArg Value.bool ?_, H.keeps⟩
      unfold rightB
      rw [hyes, Bool.true_and, decide_eq_false (show ¬ 0 ≤ cols from h5), Bool.false_and]
end Go.Proofs.Ytjebpngdinbckaa
end

section
/- Coverings: Right of the reference. -/
namespace Go.Proofs.Ytjebpngdinbckaa
open Go.Dk
attribute [local irreducible] IntKind.wrap

def greatB (cols : Int) (R : Mat) : Bool := (greatM R || decide (30 < R.length)) || (decide (30 < cols) && decide (cols ≤ 4000))
theorem ent79 : enters Try.prog 79 = true := by kernel_rfl
theorem c79 (cols : Int) (R : Mat) (v1 : Value) (w : World) (hl : R.length ≤ 9223372036854775807) (h1 : MatAt w v1 R) :
    Fun Try.prog 79 [mv cols v1] w fun v w' => v = .bool (greatB cols R) ∧ Same w w' := by
  refine fun_of_W (N := 21) Try.func79 ent79 rfl rfl rfl (by simp) ?_
  have H := Hp.start0 w
  obtain ⟨A, ca, va, rfl, ha, hra⟩ := h1.openM
  refine H.box 91 (mv _ _) (cs := mc _ _) rfl ?_
  clear H
  intro g1 w1 H
  refine H.loadAll 0 rfl agg91 size91 ?_
  refine call_fn (c170 cols R _ _ hl (h1.same H.keeps)) ?_ 
  rintro _ w3 ⟨rfl, hk⟩ 
  replace H := H.same hk 
  clear hk
  refine cond_split (fun h4 => ?_) (fun h4 => ?_)
  · refine cond_yes (by assumption) ?_
    iterate 3 refine cond_yes (by assumption) ?_
    iterate 6 refine cond_yes rfl ?_
    refine ⟨congrArg Value.bool ?_, H.keeps⟩
    unfold greatB; rw [h4]; rfl
  · refine fieldAddr_by (fa91_1 _) ?_
    refine cond_no (by assumption) ?_
    refine H.load 0 rfl agg89 rfl ?_
    refine cond_no (by assumption) ?_
    refine len_sl Try.underlying89 ?_
    iterate 2 refine cond_no (by assumption) ?_
    refine cond_dec (fun h24 => ?_) (fun h24 => ?_)
    · refine cond_yes (decide_eq_true (by assumption)) ?_
      iterate 4 refine cond_yes (decide_eq_true (by assumption)) ?_
      refine ⟨congrArg Value.bool ?_, H.keeps⟩
      unfold greatB; rw [decide_eq_true (show 30 < R.length by omega), Bool.or_true, Bool.true_or]
    · refine fieldAddr_by (fa91_0 _) ?_
      refine cond_no (decide_eq_false (by assumption)) ?_
      refine H.load 0 rfl agg3 rfl ?_
      iterate 2 refine cond_no (decide_eq_false (by assumption)) ?_
      refine cond_dec (fun h37 => ?_) (fun h37 => ?_)
      · refine fieldAddr_by (fa91_0 _) ?_
        refine cond_yes (decide_eq_true (by assumption)) ?_
        refine H.load 0 rfl agg3 rfl ?_
        refine cond_yes (decide_eq_true (by assumption)) ?_
        refine cond_no (decide_eq_false (by assumption)) ?_
        refine cond_yes (decide_eq_true (by assumption)) ?_
        refine cond_no (decide_eq_false (by assumption)) ?_
        refine ⟨congrArg Value.bool ?_, H.keeps⟩
        unfold greatB; rw [h4, decide_eq_false (show ¬ 30 < R.length by omega), decide_eq_true (show 30 < cols by omega), Bool.true_and]; rfl
      · refine cond_no (decide_eq_false (by assumption)) ?_
        iterate 4 refine cond_no (decide_eq_false (by assumption)) ?_
        refine ⟨congrArg Value.bool ?_, H.keeps⟩
        unfold greatB; rw [h4, decide_eq_false (show ¬ 30 < R.length by omega), decide_eq_false (show ¬ 30 < cols by omega)]; rfl
end Go.Proofs.Ytjebpngdinbckaa
end

section
/- Coverings: Right of the reference. -/
namespace Go.Proofs.Ytjebpngdinbckaa
open Go.Dk
attribute [local irreducible] IntKind.wrap

/-- The column ahead of a place. -/
def prevC (x : List Int) : Nat → Int
  | 0 => -1
  | j + 1 => x.getD j 0
theorem prev_succ {x : List Int} {j : Nat} {k : Int} (h : x[j]? = some k) : prevC x (j + 1) = k := by
  show x.getD j 0 = k
  rw [List.getD_eq_getElem?_getD, h]; rfl
theorem prev_get {x : List Int} {j : Nat} (h : 0 < j) (hj : j ≤ x.length) : x[j - 1]? = some (prevC x j) := by
  obtain ⟨n, rfl⟩ : ∃ n, j = n + 1 := ⟨j - 1, by omega⟩
  show x[n]? = _
  have hn : n < x.length := by omega
  rw [List.getElem?_eq_getElem hn, prev_succ (List.getElem?_eq_getElem hn)]
theorem ent84 : enters Try.prog 84 = true := by kernel_rfl
theorem c84 (cols : Int) (R : Mat) (v1 : Value) (w : World) (hl : R.length ≤ 1000000000) (hlr : ∀ r ∈ R, r.length ≤ 1000000000) (h1 : MatAt w v1 R) :
    Fun Try.prog 84 [.int .i64 cols, v1] w fun v w' => v = .bool (rightB cols R) ∧ Same w w' := by
  refine fun_of_W (N := 69) Try.func84 ent84 rfl rfl rfl (by simp) ?_
  have H := Hp.start0 w
  obtain ⟨A, ca, va, rfl, ha, hra⟩ := h1.openM
  by_cases hc : 0 ≤ cols ∧ cols ≤ 4000
  · refine cut_rule (γ := Unit) _ rfl (fun _ => []) (fun _ w' => Hp.cl H w') ⟨(), trivial, H⟩ ?_
    rintro ⟨⟩ u w0 H1
    replace H : Hp _ _ _ _ _ := H1
    clear H1
    repeat refine cond_no (decide_eq_false (by omega)) ?_
    refine cut_rule (γ := Unit) _ rfl (fun _ => []) (fun _ w' => R.all (rowB cols (-1)) = true ∧ Hp.cl H w') ?_ ?_
    · refine loop_rule (γ := Nat) _ rfl (fun i => [(5, .int .i64 (i : Int))]) (fun i w' => (i ≤ R.length ∧ (R.take i).all (rowB cols (-1)) = true) ∧ Hp.cl H w') (fun i => R.length - i) 0 ⟨rfl, trivial⟩ ⟨⟨Nat.zero_le _, by simp⟩, H⟩ ?_
      rintro i u w2 ⟨⟨hi, hyes⟩, H1⟩
      replace H : Hp _ _ _ _ _ := H1
      refine len_sl Try.underlying89 ?_
      refine cond_dec (fun h7 => ?_) (fun h7 => ?_)
      · obtain ⟨x, hx⟩ : ∃ x, R[i]? = some x := ⟨_, List.getElem?_eq_getElem (by omega)⟩
        obtain ⟨g0, o0, rfl⟩ := ha.A (by omega)
        obtain ⟨Bx, cx, hget, hsx⟩ := hra i x hx
        have hxl := hlr x (List.mem_of_getElem? hx)
        refine loop_rule (γ := Nat) _ rfl (fun j => [(6, .int .i64 (j : Int))]) (fun j w' => (j ≤ x.length ∧ rowB cols (-1) x = rowB cols (prevC x j) (x.drop j) ∧ -1 ≤ prevC x j) ∧ Hp.cl H w') (fun j => x.length - j) 0 ⟨rfl, trivial⟩ ⟨⟨Nat.zero_le _, rfl, Int.le_refl _⟩, H⟩ ?_
        rintro j u w3 ⟨⟨hj, hrow, hpv⟩, H1⟩
        replace H : Hp _ _ _ _ _ := H1
        refine idxAddr_sl Try.underlying89 (s := 1) size32 i rfl (by omega) (o' := o0 + i) (by omega) ?_
        refine H.loadSl (i := i) ha aggrow _ rfl hget ?_
        refine len_sl Try.underlying32 ?_
        refine cond_dec (fun h8 => ?_) (fun h8 => ?_)
        · obtain ⟨k, hk⟩ : ∃ k, x[j]? = some k := ⟨_, List.getElem?_eq_getElem (by omega)⟩
          obtain ⟨g2, o2, rfl⟩ := hsx.A (by omega)
          have hgk : (intsI x)[j]? = some (.int .i64 k) := by rw [intsI, List.getElem?_map, hk]; rfl
          rw [row_step hk] at hrow
          refine H.draw fol (by kernel_rfl) ?_
          clear H
          intro w4 H
          refine quiet _ (fun w H => idxAddr_sl Try.underlying89 (s := 1) size32 i rfl (by omega) (o' := o0 + i) (by omega) ⟨rfl, rfl⟩) ?_
          refine quiet _ (fun w H => H.loadSl (i := i) ha aggrow _ rfl hget ⟨rfl, rfl⟩) ?_
          refine quiet _ (fun w H => idxAddr_sl Try.underlying32 (s := 1) (by kernel_rfl) _ rfl (by first | omega | decide | (simp only [IntKind.wrap_i64]; omega) | (rw [bls, List.length_map]; omega) | (rw [bytesV_length]; omega) | (rw [ints_length]; omega) | (simp; done) | (simp; omega)) (o' := _) (by rw [Nat.mul_one]) ⟨rfl, rfl⟩) ?_
          refine quiet _ (fun w H => H.loadSl (i := j) hsx agg3 _ rfl hgk ⟨rfl, rfl⟩) ?_
          refine cond_dec (fun h6 => ?_) (fun h6 => ?_)
          · refine cond_yes (decide_eq_true (by assumption)) ?_
            iterate 8 refine cond_yes (decide_eq_true (by assumption)) ?_
            iterate 6 refine cond_yes rfl ?_
            refine ⟨congrArg Value.bool ?_, H.keeps⟩
            rw [decide_eq_false (show ¬ prevC x j < k by omega), Bool.false_and, Bool.false_and] at hrow
            exact (right_no hx hrow).symm
          · refine cond_no (decide_eq_false (by assumption)) ?_
            refine cond_no (decide_eq_false (by assumption)) ?_
            refine quiet _ (fun w H => idxAddr_sl Try.underlying89 (s := 1) size32 i rfl (by omega) (o' := o0 + i) (by omega) ⟨rfl, rfl⟩) ?_
            refine cond_no (decide_eq_false (by assumption)) ?_
            refine quiet _ (fun w H => H.loadSl (i := i) ha aggrow _ rfl hget ⟨rfl, rfl⟩) ?_
            iterate 2 refine cond_no (decide_eq_false (by assumption)) ?_
            refine quiet _ (fun w H => idxAddr_sl Try.underlying32 (s := 1) size3 j rfl (by omega) (o' := o2 + j) (by omega) ⟨rfl, rfl⟩) ?_
            refine cond_no (decide_eq_false (by assumption)) ?_
            refine quiet _ (fun w H => H.loadSl (i := j) hsx agg3 _ rfl hgk ⟨rfl, rfl⟩) ?_
            iterate 3 refine cond_no (decide_eq_false (by assumption)) ?_
            refine cond_dec (fun h39 => ?_) (fun h39 => ?_)
            · refine cond_yes (decide_eq_true (by assumption)) ?_
              iterate 3 refine cond_yes (decide_eq_true (by assumption)) ?_
              refine cond_yes rfl ?_
              refine ⟨congrArg Value.bool ?_, H.keeps⟩
              rw [decide_eq_false (show ¬ k < cols by omega), Bool.and_false, Bool.false_and] at hrow
              exact (right_no hx hrow).symm
            · refine cond_no (decide_eq_false (by assumption)) ?_
              refine cond_no (decide_eq_false (by assumption)) ?_
              refine cond_dec (fun h49 => ?_) (fun h49 => ?_)
              · refine cond_yes (decide_eq_true (by assumption)) ?_
                refine cond_yes (decide_eq_true (by assumption)) ?_
                refine quiet _ (fun w H => idxAddr_sl Try.underlying89 (s := 1) size32 i rfl (by omega) (o' := o0 + i) (by omega) ⟨rfl, rfl⟩) ?_
                refine cond_yes (decide_eq_true (by assumption)) ?_
                refine quiet _ (fun w H => H.loadSl (i := i) ha aggrow _ rfl hget ⟨rfl, rfl⟩) ?_
                iterate 2 refine cond_yes (decide_eq_true (by assumption)) ?_
                refine quiet _ (fun w H => idxAddr_sl Try.underlying32 (s := 1) size3 j rfl (by omega) (o' := o2 + j) (by omega) ⟨rfl, rfl⟩) ?_
                refine cond_yes (decide_eq_true (by assumption)) ?_
                refine quiet _ (fun w H => H.loadSl (i := j) hsx agg3 _ rfl hgk ⟨rfl, rfl⟩) ?_
                iterate 3 refine cond_yes (decide_eq_true (by assumption)) ?_
                refine quiet _ (fun w H => idxAddr_sl Try.underlying89 (s := 1) size32 i rfl (by omega) (o' := o0 + i) (by omega) ⟨rfl, rfl⟩) ?_
                refine cond_yes (decide_eq_true (by assumption)) ?_
                refine quiet _ (fun w H => H.loadSl (i := i) ha aggrow _ rfl hget ⟨rfl, rfl⟩) ?_
                iterate 3 refine cond_yes (decide_eq_true (by assumption)) ?_
                have hgp : (intsI x)[j - 1]? = some (.int .i64 (prevC x j)) := by rw [intsI, List.getElem?_map, prev_get (by omega) (by omega)]; rfl
                have hwp : IntKind.i64.wrap ((j : Int) - 1) = ((j - 1 : Nat) : Int) := by rw [IntKind.wrap_i64]; omega
                refine quiet _ (fun w H => idxAddr_sl Try.underlying32 (s := 1) size3 (j - 1) hwp (by omega) (o' := o2 + (j - 1)) (by omega) ⟨rfl, rfl⟩) ?_
                refine cond_yes (decide_eq_true (by assumption)) ?_
                refine quiet _ (fun w H => H.loadSl (i := j - 1) hsx agg3 _ rfl hgp ⟨rfl, rfl⟩) ?_
                refine cond_yes (decide_eq_true (by assumption)) ?_
                refine cond_no (decide_eq_false (by assumption)) ?_
                refine cond_yes (decide_eq_true (by assumption)) ?_
                refine cond_no (decide_eq_false (by assumption)) ?_
                refine cond_dec (fun h15 => ?_) (fun h15 => ?_)
                · refine ⟨congrArg Value.bool ?_, H.keeps⟩
                  rw [decide_eq_false (show ¬ prevC x j < k by omega), Bool.false_and, Bool.false_and] at hrow
                  exact (right_no hx hrow).symm
                · rw [decide_eq_true (show prevC x j < k by omega), decide_eq_true (show k < cols by omega), Bool.true_and, Bool.true_and] at hrow
                  exact ⟨j + 1, by show x.length - (j + 1) < x.length - j; omega, ⟨up (by omega), trivial⟩, ⟨by show j + 1 ≤ x.length; omega, by rw [prev_succ hk]; exact hrow, by rw [prev_succ hk]; omega⟩, H⟩
              · refine cond_no (decide_eq_false (by assumption)) ?_
                iterate 17 refine cond_no (decide_eq_false (by assumption)) ?_
                refine cond_no rfl ?_
                have hj0 : j = 0 := by omega
                subst hj0
                have hp0 : prevC x 0 = -1 := rfl
                rw [hp0, decide_eq_true (show (-1 : Int) < k by omega), decide_eq_true (show k < cols by omega), Bool.true_and, Bool.true_and] at hrow
                exact ⟨0 + 1, by show x.length - (0 + 1) < x.length - 0; omega, ⟨up (by omega), trivial⟩, ⟨by show 0 + 1 ≤ x.length; omega, by rw [prev_succ hk]; exact hrow, by rw [prev_succ hk]; omega⟩, H⟩
        · have : j = x.length := by omega
          subst this
          rw [List.drop_length] at hrow
          exact ⟨i + 1, by show R.length - (i + 1) < R.length - i; omega, ⟨up (by omega), trivial⟩, ⟨by show i + 1 ≤ R.length; omega, by rw [all_snocM _ hx, hyes, hrow]; rfl⟩, H⟩
      · have : i = R.length := by omega
        subst this
        rw [List.take_length] at hyes
        exact ⟨(), trivial, hyes, H⟩
    · rintro ⟨⟩ u w2 ⟨hyes, H1⟩
      replace H : Hp _ _ _ _ _ := H1
      clear H1
      refine ⟨congrArg Value.bool ?_, H.keeps⟩
      unfold rightB; rw [hyes, decide_eq_true hc.1, decide_eq_true hc.2]; rfl
  · refine cond_dec (fun h2 => ?_) (fun h2 => ?_)
    · refine cond_yes (decide_eq_true (by assumption)) ?_
      refine cond_yes (decide_eq_true (by assumption)) ?_
      refine cond_yes rfl ?_
      refine ⟨congrArg Value.bool ?_, H.keeps⟩
      unfold rightB; rw [decide_eq_false (show ¬ 0 ≤ cols by omega), Bool.false_and, Bool.and_false]
    · refine cond_no (decide_eq_false (by assumption)) ?_
      refine cond_no (decide_eq_false (by assumption)) ?_
      refine cond_yes (decide_eq_true (by omega)) ?_
      refine ⟨congrArg Value.bool ?_, H.keeps⟩
      unfold rightB; rw [decide_eq_false (show ¬ cols ≤ 4000 by omega), Bool.and_false, Bool.and_false]
end Go.Proofs.Ytjebpngdinbckaa
end

section
/- Maps whose values are slices of one's own; ranges over maps. -/
namespace Go.Dk
open Go.ChangeMaps (setBlock)
open Go.MapKept (Stamped)

theorem perm_set {α : Type} : ∀ {l : List α} {j : Nat}, j < l.length → ∀ x : α, (l.set j x).Perm (x :: l.eraseIdx j)
  | [], _, h, _ => by simp at h
  | y :: l, 0, _, x => by simp
  | y :: l, j + 1, h, x => by
    rw [List.set_cons_succ, List.eraseIdx_cons_succ]
    exact ((perm_set (l := l) (j := j) (by simpa using h) x).cons y).trans (List.Perm.swap x y _)
theorem perm_get {α : Type} {l : List α} {j : Nat} {x : α} (h : l[j]? = some x) : l.Perm (x :: l.eraseIdx j) := by
  obtain ⟨hj, rfl⟩ := List.getElem?_eq_some_iff.1 h
  have := perm_set hj l[j]
  rwa [List.set_getElem_self] at this

section
variable {α β : Type} {ka : α → Value} {vb : β → Value} {z : Value} {P : Program} {t kt et : TypeId} {w0 w : World} {F : Nat → Prop} {L M : List Res} {k kk : Value → World → Prop}
theorem lookup_at [DecidableEq α] {l : List (α × β)} {r : Nat} (hr : (mapR ka vb r l).ok w) (W : MapW P t kt et ka vb z) (a : α)
    (h : kk (((aget l a).map vb).getD z) w) : lookupK P t (.map (some r)) (ka a) false w kk := by
  obtain ⟨es, clock, hb, hs, hl⟩ := hr
  unfold lookupK
  rcases mapR_find W hs hl a w with ⟨hf, hg, _⟩ | ⟨j, e, b, hf, he, hek, hlj, hv, hg⟩
  · rw [hg] at h
    exact ⟨_, w, by simp [Instr.lookup, run_underlying W.und, MapKept.run_getObj_map hb, W.key.check w _ ⟨a, rfl⟩, hf, run_zero W.zero, Result.andThen], h⟩
  · rw [hg] at h
    exact ⟨_, w, by simp [Instr.lookup, run_underlying W.und, MapKept.run_getObj_map hb, W.key.check w _ ⟨a, rfl⟩, hf, hv, Result.andThen], h⟩
theorem mapR_nodup {l : List (α × β)} {r : Nat} (hr : (mapR ka vb r l).ok w) (hi : ∀ a b, ka a = ka b → a = b) : (akeys l).Nodup := by
  obtain ⟨es, clock, _, hs, hl⟩ := hr
  exact mapR_keys hi hs hl

/-! ### Values that are slices -/
abbrev MsL (α : Type) := List (α × Value × List Value)
def msM (l : MsL α) : List (α × Value) := l.map fun x => (x.1, x.2.1)
def msO (e : TypeId) (x : α × Value × List Value) : Res := own e 1 x.2.1 x.2.2.length x.2.2
/-- A map whose values are slices of one's own. -/
def msR (ka : α → Value) (e : TypeId) (r : Nat) (l : MsL α) : Res := seps (mapR ka (fun v : Value => v) r (msM l) :: l.map (msO e))
theorem akeys_msM (l : MsL α) : akeys (msM l) = akeys l := by unfold akeys msM; rw [List.map_map]; rfl
theorem Hp.msMake (H : Hp w0 F w L M) (ka : α → Value) (e : TypeId)
    (h : ∀ r w', Hp w0 F w' (msR ka e r [] :: L) M → k (.map (some r)) w') : makeMapK P t none w k :=
  H.makeMap ka (fun v : Value => v) fun r w' H => h r w' (Hp.join (Ls := [mapR ka (fun v : Value => v) r (msM ([] : MsL α))]) H)
theorem msR_map {e : TypeId} {r : Nat} {l : MsL α} (h : (msR ka e r l).ok w) : (mapR ka (fun v : Value => v) r (msM l)).ok w := h.1 _ (.head _)
variable [DecidableEq α]
def msV (l : MsL α) (a : α) : Value := ((aget l a).map (·.1)).getD (.slice none 0 0)
def msX (l : MsL α) (a : α) : List Value := ((aget l a).map (·.2)).getD []
theorem aget_msM (l : MsL α) (a : α) : aget (msM l) a = (aget l a).map (·.1) := by
  unfold aget msM
  induction l with
  | nil => rfl
  | cons x l ih =>
    rw [List.map_cons, List.find?_cons, List.find?_cons]
    by_cases h : x.1 = a
    · simp [h]
    · simp only [h, decide_false]
      exact ih
theorem aget_place {γ : Type} {l : List (α × γ)} {a : α} {b : γ} (h : aget l a = some b) : ∃ j : Nat, l[j]? = some (a, b) := by
  unfold aget at h
  cases hf : l.find? fun p => decide (p.1 = a) with
  | none => rw [hf] at h; cases h
  | some p =>
    rw [hf] at h
    injection h with h
    have h1 := List.find?_some hf
    have h2 := List.mem_of_find?_eq_some hf
    obtain ⟨j, hj⟩ := List.getElem?_of_mem h2
    refine ⟨j, ?_⟩
    rw [hj]
    obtain ⟨x, y⟩ := p
    have : x = a := by simpa using h1
    simp only at h
    rw [this, h]
theorem aset_set {γ : Type} {l : List (α × γ)} (hn : (akeys l).Nodup) {j : Nat} {a : α} {b0 : γ} (h : l[j]? = some (a, b0)) (b : γ) : aset l a b = l.set j (a, b) := by
  have hg := aget_of_mem hn (List.mem_of_getElem? h)
  unfold aset
  rw [hg]
  simp only [Option.isSome_some, if_true]
  apply List.ext_getElem?
  intro i
  rw [List.getElem?_map, List.getElem?_set]
  obtain ⟨hj, _⟩ := List.getElem?_eq_some_iff.1 h
  by_cases hij : j = i
  · subst hij
    rw [if_pos rfl, if_pos hj, h]; simp
  · rw [if_neg hij]
    cases hi : l[i]? with
    | none => rfl
    | some p =>
      have hne : p.1 ≠ a := fun e => by
        have h1 : (akeys l)[i]? = some a := by unfold akeys; rw [List.getElem?_map, hi, ← e]; rfl
        have h2 : (akeys l)[j]? = some a := by unfold akeys; rw [List.getElem?_map, h]; rfl
        exact hij ((List.getElem?_inj (List.getElem?_eq_some_iff.1 h2).1 hn).1 (h2.trans h1.symm))
      simp [hne]
theorem msM_aset (l : MsL α) (a : α) (v : Value) (xs : List Value) : msM (aset l a (v, xs)) = aset (msM l) a v := by
  unfold aset
  rw [aget_msM]
  cases aget l a with
  | none => simp [msM]
  | some b =>
    simp only [Option.isSome_some, Option.map_some, if_true]
    unfold msM
    rw [List.map_map, List.map_map]
    refine List.map_congr_left fun p _ => ?_
    simp only [Function.comp_apply]
    split <;> rfl
/-- To write a value: the map, the slice that stands there, and how it is shut. -/
theorem Hp.msOpen {e : TypeId} {r : Nat} {l : MsL α} (H : Hp w0 F w (msR ka e r l :: L) M) (hi : ∀ a b, ka a = ka b → a = b) (a : α) : ∃ v xs Ls, msV l a = v ∧ msX l a = xs ∧ Hp w0 F w (mapR ka (fun v : Value => v) r (msM l) :: own e 1 v xs.length xs :: (Ls ++ L)) M ∧
    ∀ w' v' xs', Hp w0 F w' (mapR ka (fun v : Value => v) r (aset (msM l) a v') :: own e 1 v' xs'.length xs' :: (Ls ++ L)) M → Hp w0 F w' (msR ka e r (aset l a (v', xs')) :: L) M := by
  have H' := H.split
  have hn : (akeys l).Nodup := by
    have := mapR_nodup (H'.get 0 rfl) hi
    rwa [akeys_msM] at this
  cases hg : aget l a with
  | none =>
    refine ⟨.slice none 0 0, [], l.map (msO e), by unfold msV; rw [hg]; rfl, by unfold msX; rw [hg]; rfl, ?_, fun w' v' xs' H2 => ?_⟩
    · exact (H'.ownNil e 1).perm (List.Perm.swap _ _ _)
    · have e1 : aset l a (v', xs') = l ++ [(a, v', xs')] := by unfold aset; rw [hg]; rfl
      unfold msR
      refine Hp.join ?_
      rw [msM_aset, e1, List.map_append, List.cons_append, List.append_assoc]
      refine H2.perm (List.Perm.cons _ ?_)
      exact (List.perm_middle (a := own e 1 v' xs'.length xs') (l₁ := l.map (msO e)) (l₂ := L)).symm
  | some b =>
    obtain ⟨v, xs⟩ := b
    obtain ⟨j, hj⟩ := aget_place hg
    have hjl := (List.getElem?_eq_some_iff.1 hj).1
    have hjm : (l.map (msO e))[j]? = some (own e 1 v xs.length xs) := by rw [List.getElem?_map, hj]; rfl
    refine ⟨v, xs, (l.map (msO e)).eraseIdx j, by unfold msV; rw [hg]; rfl, by unfold msX; rw [hg]; rfl, ?_, fun w' v' xs' H2 => ?_⟩
    · refine H'.perm ?_
      rw [List.cons_append]
      refine List.Perm.cons _ ?_
      have := (perm_get hjm).append_right L
      rwa [List.cons_append] at this
    · unfold msR
      refine Hp.join ?_
      rw [msM_aset, aset_set hn hj, List.map_set, List.cons_append]
      refine H2.perm (List.Perm.cons _ ?_)
      have := ((perm_set (l := l.map (msO e)) (j := j) (by simpa using hjl) (msO e (a, v', xs'))).append_right L).symm
      rwa [List.cons_append] at this
theorem msR_own {e : TypeId} {r : Nat} {l : MsL α} (h : (msR ka e r l).ok w) (a : α) : (own e 1 (msV l a) (msX l a).length (msX l a)).ok w := by
  unfold msV msX
  cases hg : aget l a with
  | none => exact World.ownsRow_nil w 0 e 1
  | some b =>
    obtain ⟨j, hj⟩ := aget_place hg
    exact h.1 _ (.tail _ (List.mem_map.2 ⟨_, List.mem_of_getElem? hj, rfl⟩))
theorem msR_form {e : TypeId} {r : Nat} {l : MsL α} (h : (msR ka e r l).ok w) (a : α) : ∃ A c, msV l a = .slice A (msX l a).length c := by
  obtain ⟨A, c, hv, _⟩ := own_form (msR_own h a)
  exact ⟨A, c, hv⟩
/-- m[k], of slices. -/
theorem msLookup_at {e : TypeId} {r : Nat} {l : MsL α} (h : (msR ka e r l).ok w) (W : MapW P t kt et ka (fun v : Value => v) (.slice none 0 0)) (a : α) (hk : kk (msV l a) w) : lookupK P t (.map (some r)) (ka a) false w kk := by
  refine lookup_at (msR_map h) W a ?_
  rw [aget_msM, Option.map_map]
  exact hk
theorem msV_aset (l : MsL α) (a c : α) (b : Value × List Value) : msV (aset l a b) c = if c = a then b.1 else msV l c := by
  unfold msV; rw [aget_aset]; split <;> rfl
theorem msX_aset (l : MsL α) (a c : α) (b : Value × List Value) : msX (aset l a b) c = if c = a then b.2 else msX l c := by
  unfold msX; rw [aget_aset]; split <;> rfl
end

/-! ### Ranges -/
section
variable {α β : Type} {ka : α → Value} {vb : β → Value} {z : Value} {P : Program} {t kt et : TypeId} {w0 w : World} {F : Nat → Prop} {L M : List Res} {k kk : Value → World → Prop}
def pairE (e : MapEntry) : Value × Value := (e.key, e.val)
def pairV (ka : α → Value) (vb : β → Value) (p : α × β) : Value × Value := (ka p.1, vb p.2)
def rngOk (ka : α → Value) (vb : β → Value) (bm r : Nat) (l D : List (α × β)) (w : World) : Prop :=
  ∃ (es : Array MapEntry) (clock since : Nat) (seen : Array Nat) (ds : List MapEntry), w.heap[bm]? = some (.map es clock) ∧ Stamped es clock ∧ es.toList.map pairE = l.map (pairV ka vb) ∧
    w.heap[r]? = some (.mapIter (some bm) since seen clock) ∧ (∀ x ∈ es.toList, x.born < since) ∧ since ≤ clock ∧ r ≠ bm ∧ seen.toList = ds.map (·.born) ∧ (∀ d ∈ ds, d ∈ es.toList) ∧ ds.map pairE = D.map (pairV ka vb)
/-- A map that is ranged over, and what has been handed out. -/
def rngR (ka : α → Value) (vb : β → Value) (bm r : Nat) (l D : List (α × β)) : Res :=
  ⟨fun g => g = bm ∨ g = r, rngOk ka vb bm r l D, fun w w' h ⟨es, clock, since, seen, ds, h1, h2, h3, h4, h5⟩ => ⟨es, clock, since, seen, ds, (h bm (.inl rfl)).trans h1, h2, h3, (h r (.inr rfl)).trans h4, h5⟩⟩
theorem rng_map {bm r : Nat} {l D : List (α × β)} (h : (rngR ka vb bm r l D).ok w) : (mapR ka vb bm l).ok w := by
  obtain ⟨es, clock, _, _, _, h1, h2, h3, _⟩ := h
  exact ⟨es, clock, h1, h2, h3⟩
theorem Hp.rangeMap {l : List (α × β)} {bm : Nat} (H : Hp w0 F w (mapR ka vb bm l :: L) M) {k0 e0 : TypeId} (ht : P.underlying t = some (.map k0 e0))
    (h : ∀ r w', Hp w0 F w' (rngR ka vb bm r l [] :: L) M → k (.pointer (some ⟨r, 0, none⟩)) w') : rangeK P t (.map (some bm)) w k := by
  obtain ⟨es, clock, hb, hs, hl⟩ := H.get 0 rfl
  have hlt : bm < w.heap.size := (Array.getElem?_eq_some_iff.1 hb).1
  unfold rangeK
  refine ⟨_, w.alloc (.mapIter (some bm) clock #[] clock), run_range_map w t k0 e0 bm es clock ht hb, h w.heap.size _ ?_⟩
  have H1 := H.add (Keeps.alloc w (.mapIter (some bm) clock #[] clock)) ⟨fun g => g = w.heap.size, fun u => u.heap[w.heap.size]? = some (.mapIter (some bm) clock #[] clock), fun _ _ h hw => (h _ rfl).trans hw⟩ (heap_alloc_new w _)
    (by rintro g rfl; exact ⟨Nat.le_refl _, by simp⟩)
  have hb' : (w.alloc (.mapIter (some bm) clock #[] clock)).heap[bm]? = some (.map es clock) := (heap_alloc_old w _ hlt).trans hb
  refine (Hp.join (Ls := [_, mapR ka vb bm l]) (L := L) H1).re (fun hok => ?_) (fun g hg => ?_)
  · have h1 := hok.1 _ (.head _)
    refine ⟨es, clock, clock, #[], [], hb', hs, hl, h1, hs.1, Nat.le_refl _, by omega, rfl, by simp, rfl⟩
  · rcases hg with rfl | rfl
    · exact ⟨mapR ka vb g l, .tail _ (.head _), rfl⟩
    · exact ⟨_, .head _, rfl⟩
theorem Hp.rangeDone {l D : List (α × β)} {bm r : Nat} (H : Hp w0 F w (rngR ka vb bm r l D :: L) M) : Hp w0 F w (mapR ka vb bm l :: L) M := H.re rng_map (by rintro g rfl; exact .inl rfl)
theorem pairV_inj (hi : ∀ a b, ka a = ka b → a = b) (hv : ∀ a b, vb a = vb b → a = b) {p q : α × β} (h : pairV ka vb p = pairV ka vb q) : p = q := by
  obtain ⟨a, b⟩ := p
  obtain ⟨c, d⟩ := q
  unfold pairV at h
  injection h with h1 h2
  rw [show a = c from hi _ _ h1, show b = d from hv _ _ h2]
theorem Hp.nextMap (H : Hp w0 F w L M) (n : Nat) {ty : TypeId} {bm r : Nat} {l D : List (α × β)} (hn : L[n]? = some (rngR ka vb bm r l D)) (hi : ∀ a b, ka a = ka b → a = b) (hv : ∀ a b, vb a = vb b → a = b)
    (h1 : (∀ p ∈ l, p ∈ D) → kk (.tuple #[.bool false]) w)
    (h2 : ∀ a b w', (a, b) ∈ l → (a, b) ∉ D → Hp w0 F w' (L.set n (rngR ka vb bm r l (D ++ [(a, b)]))) M → kk (.tuple #[.bool true, ka a, vb b]) w') : nextK P (.pointer (some ⟨r, 0, none⟩)) false ty w kk := by
  obtain ⟨es, clock, since, seen, ds, hb, hs, hl, hr, hold, hsc, hne, hseen, hds, hD⟩ := H.get n hn
  have hrl : r < w.heap.size := (Array.getElem?_eq_some_iff.1 hr).1
  have hbl : bm < w.heap.size := (Array.getElem?_eq_some_iff.1 hb).1
  have hcon : ∀ x : MapEntry, x ∈ es.toList → (seen.contains x.born = true ↔ x ∈ ds) := fun x hx => by
    rw [Array.contains_iff_mem, ← Array.mem_toList_iff, hseen, List.mem_map]
    constructor
    · rintro ⟨d, hd, he⟩
      have hn2 := hs.2.1
      have h3 := find_born d es.toList hn2 (hds d hd)
      have h4 := find_born x es.toList hn2 hx
      rw [← he] at h4
      rw [h3] at h4
      injection h4 with h4
      exact h4 ▸ hd
    · intro hx; exact ⟨x, hx, rfl⟩
  have hent : ∀ x ∈ es.toList, ∃ p ∈ l, pairE x = pairV ka vb p := fun x hx => by
    have : pairE x ∈ es.toList.map pairE := List.mem_map.2 ⟨x, hx, rfl⟩
    rw [hl] at this
    obtain ⟨p, hp, he⟩ := List.mem_map.1 this
    exact ⟨p, hp, he.symm⟩
  unfold nextK
  rcases run_next_at (P := P) w ty r bm since clock seen es clock hr hb hold hsc with ⟨h0, hrun⟩ | ⟨e, he, w1, hw1, hrun⟩
  · refine ⟨_, w, hrun, h1 fun p hp => ?_⟩
    have : pairV ka vb p ∈ l.map (pairV ka vb) := List.mem_map.2 ⟨p, hp, rfl⟩
    rw [← hl] at this
    obtain ⟨x, hx, hxe⟩ := List.mem_map.1 this
    have hxs : x ∈ ds := (hcon x hx).1 (by
      cases hc : seen.contains x.born with
      | true => rfl
      | false =>
        have hm : x ∈ leftOf es seen := Array.mem_filter.2 ⟨Array.mem_toList_iff.1 hx, by rw [hc]; rfl⟩
        have := Array.size_pos_of_mem hm
        omega)
    have : pairE x ∈ ds.map pairE := List.mem_map.2 ⟨x, hxs, rfl⟩
    rw [hD, hxe] at this
    obtain ⟨q, hq, hqe⟩ := List.mem_map.1 this
    exact pairV_inj hi hv hqe ▸ hq
  · obtain ⟨hee, hec⟩ := mem_left he
    obtain ⟨⟨a, b⟩, hp, hpe⟩ := hent e hee
    have hkey : e.key = ka a := congrArg Prod.fst hpe
    have hval : e.val = vb b := congrArg Prod.snd hpe
    rw [hkey, hval] at hrun
    have hheap : w1.heap = w.heap ∧ w1.os = w.os ∧ w1.tape = w.tape ∧ w1.output = w.output := by rcases hw1 with rfl | rfl <;> exact ⟨rfl, rfl, rfl, rfl⟩
    obtain ⟨hh, ho, htp, hou⟩ := hheap
    have hset := MapKept.heap_set (w := w1) (o' := .mapIter (some bm) since (seen.push e.born) clock) (by rw [hh]; exact hr)
    have hnd : e ∉ ds := fun hd => by rw [(hcon e hee).2 hd] at hec; cases hec
    refine ⟨_, _, hrun, h2 a b _ hp (fun hpD => ?_) (H.turn n hn _ ⟨by show (setBlock w1 r _).os = w.os; exact ho, htp, hou, ?_, fun g hg hgf => ?_⟩ ?_ ?_)⟩
    · have : pairV ka vb (a, b) ∈ D.map (pairV ka vb) := List.mem_map.2 ⟨_, hpD, rfl⟩
      rw [← hD] at this
      obtain ⟨d, hd, hde⟩ := List.mem_map.1 this
      have hk : d.key = e.key := by rw [hkey]; exact congrArg Prod.fst hde
      have hn3 := hs.2.2
      have : d = e := by
        obtain ⟨i, hi1, hi2⟩ := List.getElem_of_mem (hds d hd)
        obtain ⟨j, hj1, hj2⟩ := List.getElem_of_mem hee
        have hij : i = j := by
          refine (List.getElem?_inj (by simpa using hi1) hn3).1 ?_
          rw [List.getElem?_map, List.getElem?_map, List.getElem?_eq_getElem hi1, List.getElem?_eq_getElem hj1, hi2, hj2]
          exact congrArg some hk
        subst hij
        rw [← hi2, ← hj2]
      exact hnd (this ▸ hd)
    · show w.heap.size ≤ (w1.heap.setIfInBounds r _).size
      simp [hh]
    · have hgr : g ≠ r := fun e => hgf (.inr e)
      rw [← hh]
      exact hset.2 g hgr
    · refine ⟨es, clock, since, seen.push e.born, ds ++ [e], ?_, hs, hl, hset.1, hold, hsc, hne, ?_, ?_, ?_⟩
      · exact (hset.2 bm (Ne.symm hne)).trans (by rw [hh]; exact hb)
      · simp [hseen]
      · intro d hd
        rcases List.mem_append.1 hd with hd | hd
        · exact hds d hd
        · rw [List.mem_singleton.1 hd]; exact hee
      · rw [List.map_append, List.map_append, hD]
        simp [hpe]
    · intro g hg
      refine ⟨?_, .inl hg⟩
      show g < (w1.heap.setIfInBounds r _).size
      rw [Array.size_setIfInBounds, hh]
      rcases hg with rfl | rfl
      · exact hbl
      · exact hrl
/-- The entry that was handed out last. -/
theorem entryMap_at {bm r : Nat} {l D : List (α × β)} {a : α} {b : β} (h : (rngR ka vb bm r l (D ++ [(a, b)])).ok w) (hk : kk (.tuple #[ka a, vb b]) w) : entryK P (.pointer (some ⟨r, 0, none⟩)) w kk := by
  obtain ⟨es, clock, since, seen, ds, hb, hs, hl, hr, hold, hsc, hne, hseen, hds, hD⟩ := h
  rw [List.map_append, List.map_cons, List.map_nil] at hD
  have hlen : ds ≠ [] := fun e => by subst e; simp at hD
  obtain ⟨ds0, e, rfl⟩ : ∃ ds0 e, ds = ds0 ++ [e] := by
    rcases List.eq_nil_or_concat ds with e | ⟨ds0, e, he⟩
    · exact absurd e hlen
    · exact ⟨ds0, e, by simpa using he⟩
  rw [List.map_append, List.map_cons, List.map_nil] at hD hseen
  have he := (List.append_inj' hD rfl).2
  injection he with he _
  have hkey : e.key = ka a := congrArg Prod.fst he
  have hval : e.val = vb b := congrArg Prod.snd he
  have hpush : seen = ((ds0.map (·.born)).toArray).push e.born := by
    apply Array.toList_inj.1
    rw [hseen]; simp
  rw [hpush] at hr
  unfold entryK
  refine ⟨_, w, run_entry_at w r bm since _ es clock e hr hb (hds e (by simp)) hs.2.1, ?_⟩
  rw [hkey, hval]; exact hk
end
end Go.Dk
end

section
/- Slices of slices; what is appended from a slice that is only read. -/
namespace Go.Dk
section
variable {P : Program} {w0 w w' : World} {F : Nat → Prop} {L M : List Res} {k kk : Value → World → Prop}
theorem addr_add (g o j : Nat) : (⟨g, o, none⟩ : Addr).add j = ⟨g, o + j, none⟩ := by unfold Addr.add; split <;> simp_all
theorem elemOf {t e : TypeId} (ht : P.underlying t = some (.slice e)) : P.underlying t = some (.slice (P.elem t)) := by
  have : P.elem t = e := by simp [Program.elem, ht]
  rw [this]; exact ht
theorem elemIs {t e : TypeId} (ht : P.underlying t = some (.slice e)) : P.elem t = e := by simp [Program.elem, ht]
theorem Sl.empty {v : Value} {sz : Nat} {xs : List Value} {A : Option Addr} {c : Nat} (hv : v = .slice A 0 c) (hx : xs = []) : Sl w v sz 0 xs := by
  subst hx; subst hv
  exact ⟨by simp, A, c, rfl, Nat.zero_le _, .inl rfl⟩
/-- s[:i]. -/
theorem Sl.sliceTo {t e : TypeId} {sz l c i : Nat} {A : Option Addr} {xs : List Value} {kd : IntKind} {j : Int} (hs : Sl w (.slice A l c) sz l xs) (ht : P.underlying t = some (.slice e)) (hz : sizeT P e = some sz) (hj : j = (i : Int)) (hi : i ≤ l)
    (h : ∀ A' c', Sl w (.slice A' i c') sz i (xs.take (i * sz)) → kk (.slice A' i c') w) : sliceK P t (.slice A l c) none (some (.int kd j)) none w kk := by
  subst hj
  obtain ⟨hlen, A1, c1, hv, hlc, hcase⟩ := hs
  injection hv with e1 _ e2
  subst e1; subst e2
  unfold sliceK
  refine ⟨sliced A 0 i c sz, w, ?_, ?_⟩
  · rw [run_sliceAt_slice w t _ _ _ _ (elemOf ht), run_slice_h w t A l c (elemOf ht) kd (i : Int) (by omega) (by omega), elemIs ht, run_sizeOf hz]
    rfl
  · have e : sliced A 0 i c sz = .slice (if c = 0 then A else A.map (·.add 0)) i c := by unfold sliced; simp
    rw [e]
    refine h _ _ ?_
    rcases Nat.eq_zero_or_pos i with rfl | h0
    · exact Sl.empty rfl (by simp)
    · rcases hcase with h1 | ⟨g, o, rfl, hg, hx⟩
      · omega
      · refine ⟨?_, _, c, rfl, by omega, .inr ⟨g, o, ?_, hg, fun j hj => ?_⟩⟩
        · rw [List.length_take, hlen]
          have := Nat.mul_le_mul_right sz hi
          omega
        · rw [if_neg (by omega)]
          simp [addr_add]
        · have := Nat.mul_le_mul_right sz hi
          rw [hx j (by omega), List.getElem?_take]
          rw [if_pos hj]
/-- s[i:]. -/
theorem Sl.sliceFrom {t e : TypeId} {sz l c i : Nat} {A : Option Addr} {xs : List Value} {kd : IntKind} {j : Int} (hs : Sl w (.slice A l c) sz l xs) (ht : P.underlying t = some (.slice e)) (hz : sizeT P e = some sz) (hj : j = (i : Int)) (hi : i ≤ l)
    (h : ∀ A' c', Sl w (.slice A' (l - i) c') sz (l - i) (xs.drop (i * sz)) → kk (.slice A' (l - i) c') w) : sliceK P t (.slice A l c) (some (.int kd j)) none none w kk := by
  subst hj
  obtain ⟨hlen, A1, c1, hv, hlc, hcase⟩ := hs
  injection hv with e1 _ e2
  subst e1; subst e2
  unfold sliceK
  refine ⟨sliced A i l c sz, w, ?_, ?_⟩
  · rw [run_sliceAt_slice w t _ _ _ _ (elemOf ht), run_slice_l w t A l c (elemOf ht) kd (i : Int) (by omega) (by omega), elemIs ht, run_sizeOf hz]
    rfl
  · have e : sliced A i l c sz = .slice (if c = i then A else A.map (·.add (i * sz))) (l - i) (c - i) := rfl
    rw [e]
    refine h _ _ ?_
    rcases Nat.eq_zero_or_pos (l - i) with h0 | h0
    · rw [h0]
      refine Sl.empty rfl (List.drop_eq_nil_iff.2 ?_)
      have : l = i := by omega
      rw [hlen, this]; exact Nat.le_refl _
    · rcases hcase with h1 | ⟨g, o, rfl, hg, hx⟩
      · omega
      · refine ⟨?_, _, c - i, rfl, by omega, .inr ⟨g, o + i * sz, ?_, hg, fun j hj => ?_⟩⟩
        · rw [List.length_drop, hlen, Nat.sub_mul]
        · rw [if_neg (by omega)]
          simp [addr_add]
        · rw [Nat.sub_mul] at hj
          rw [Nat.add_assoc, hx (i * sz + j) (by omega), List.getElem?_drop]
/-- append of a slice that is only read. -/
theorem Hp.appendSl (H : Hp w0 F w L M) (n : Nat) {t e ty : TypeId} {z v : Value} {sz b l c d : Nat} {A : Option Addr} {xs ys : List Value} {cst : Array Bool} (T : SlT P t e z sz b)
    (hn : L[n]? = some (own e sz v l xs)) (hs : Sl w (.slice A c d) sz c ys) (h1 : ∀ u ∈ ys, u.oneCell' = true) (hl : (l + c) * b ≤ 140737488355328) (hl' : l + c < 1152921504606846976)
    (h : ∀ A d w', Hp w0 F w' (L.set n (own e sz (.slice A (l + c) d) (l + c) (xs ++ ys))) M → kk (.slice A (l + c) d) w') :
    builtinK P .append #[t, t] ty cst [v, .slice A c d] w kk := by
  obtain ⟨i, hi, hz, hs', hb⟩ := T.parts
  have hown : w.ownsRow 0 e sz v l xs := H.get n hn
  have hyl := hs.1
  rcases A with _ | a
  · have hc : c = 0 := by
      rcases Nat.eq_zero_or_pos c with h0 | h0
      · exact h0
      · obtain ⟨_, _, hA⟩ := hs.A h0; cases hA
    subst hc
    have hy : ys = [] := List.eq_nil_of_length_eq_zero (by simpa using hyl)
    subst hy
    obtain ⟨A', c', rfl, hlc'⟩ := own_form (H.get n hn)
    have hL : L.set n (own e sz (.slice A' (l + 0) c') (l + 0) (xs ++ [])) = L := by
      obtain ⟨h1, h2⟩ := List.getElem?_eq_some_iff.1 hn
      rw [List.append_nil, Nat.add_zero, ← h2]; exact List.set_getElem_self h1
    unfold builtinK
    refine ⟨_, w, ?_, h A' c' w (by rw [hL]; exact H)⟩
    show (do pure (.value (← Builtin.append_ #[t, t] ty #[.slice A' l c', .slice none 0 d])) : Sem Next).run P w = _
    simp [Builtin.append_, run_underlying T.und, sizeOf, typeInfo, hi, Builtin.lenOf, Builtin.firstCells, storeCells, hlc']
    cases A' <;> simp [Result.andThen]
  · obtain ⟨v', w', hrun, hown', hg, _, hloc⟩ := run_append_own_at (P := P) w 0 t ty e i z sz b T.und hi hz hs' hb T.zs T.pos v l xs hown a c d ys hyl
      (fun j u hu => by
        have hjl := (List.getElem?_eq_some_iff.1 hu).1
        have hc : 0 < c := by
          rcases Nat.eq_zero_or_pos c with h0 | h0
          · subst h0; simp at hyl; subst hyl; simp at hjl
          · exact h0
        obtain ⟨g', o', ha⟩ := hs.A hc
        injection ha with ha
        subst ha
        rw [addr_add, hs.cell j (by omega), hu]) h1 (by unfold maxLen; omega) hl (Nat.zero_le _)
    have hk : Keeps (own e sz v l xs).foot w w' := ⟨hg.os, hg.tape, hg.output, hg.size, fun x hx hne => hg.block x hx fun e => hne e.symm⟩
    have H' := H.turn n hn (own e sz v' (l + c) (xs ++ ys)) hk hown' (fun x hx => ⟨(World.ownsRow.lt (w := w') (base := 0) hown' x hx).2, by
      have hx' : v'.ownBlock = some x := hx
      rcases hloc with h | h
      · left; show v.ownBlock = some x; rw [← h]; exact hx'
      · right; rw [h] at hx'; injection hx' with hx'; omega⟩)
    have hv : ∃ A d, v' = .slice A (l + c) d := by
      rcases hown'.2 with ⟨rfl, h0⟩ | ⟨g', cap, cur, hv, _⟩
      · exact ⟨none, 0, by rw [h0]⟩
      · exact ⟨_, _, hv⟩
    obtain ⟨A, d', rfl⟩ := hv
    unfold builtinK
    refine ⟨_, w', ?_, h A d' w' H'⟩
    show (do pure (.value (← Builtin.append_ #[t, t] ty #[v, .slice (some a) c d])) : Sem Next).run P w = _
    rw [Sem.run_bind, hrun]
    rfl
end
end Go.Dk
end

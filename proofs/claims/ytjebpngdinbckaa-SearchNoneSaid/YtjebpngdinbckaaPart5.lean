import Derived.Test.YtjebpngdinbckaaPart4
import Derived.Maps.RangeRun
import Derived.Laws.Slices
/- Lemmas, part 5: what the proof of the row uses. -/
section
/- The reference's arenas: Make. -/
namespace Go.Proofs.Ytjebpngdinbckaa
open Go.Dk
attribute [local irreducible] IntKind.wrap

section
variable {P : Program} {w0 w w' : World} {F : Nat → Prop} {L M : List Res} {k kk : Value → World → Prop}
/-- An empty literal slice. -/
theorem Hp.buildNil (H : Hp w0 F w L M) {t e : TypeId} {z : Value} {sz b : Nat} (T : SlT P t e z sz b)
    (h : ∀ g w', Hp w0 F w' (own e sz (.slice (some ⟨g, 0, none⟩) 0 0) 0 [] :: L) M → k (.slice (some ⟨g, 0, none⟩) 0 0) w') : buildSliceK P t 0 [] w k := by
  unfold buildSliceK
  refine ⟨_, w.alloc (.cells #[] e), ?_, h w.heap.size _ (H.add (Keeps.alloc _ _) _ ?_ ?_)⟩
  · simp only [Instr.buildSlice, Sem.run_bind, run_underlying T.und, Result.andThen_ok, Go.Dk.run_sizeOf T.size]
    simp [Instr.fill, newRow]
    exact congrArg (fun x => w.alloc (.cells x e)) (Array.eq_empty_of_size_eq_zero (by simp))
  · exact ⟨by simp, .inr ⟨w.heap.size, 0, #[], rfl, Nat.zero_le _, heap_alloc_new w _, Nat.le_refl _, by unfold maxLen; omega, by simp, by simp⟩⟩
  · rintro g hg
    have : w.heap.size = g := by injection hg
    subst this
    exact ⟨Nat.le_refl _, by simp⟩
/-- append of a slice that is only read onto an empty one of one's own: a copy. -/
theorem Hp.appendCopy (H : Hp w0 F w L M) (n : Nat) {t e ty : TypeId} {z : Value} {sz b g c d : Nat} {A : Option Addr} {xs : List Value} {cst : Array Bool} (T : SlT P t e z sz b)
    (hn : L[n]? = some (own e sz (.slice (some ⟨g, 0, none⟩) 0 0) 0 [])) (hs : Sl w (.slice A c d) sz c xs) (h1 : ∀ u ∈ xs, u.oneCell' = true) (hl : c * b ≤ 140737488355328) (hl' : c < 1152921504606846976)
    (h : ∀ A d w', Hp w0 F w' (L.set n (own e sz (.slice A c d) c xs)) M → kk (.slice A c d) w') :
    builtinK P .append #[t, t] ty cst [.slice (some ⟨g, 0, none⟩) 0 0, .slice A c d] w kk := by
  obtain ⟨i, hi, hz, hs', hb⟩ := T.parts
  have hown : w.ownsRow 0 e sz (.slice (some ⟨g, 0, none⟩) 0 0) 0 [] := H.get n hn
  have hxl := hs.1
  rcases A with _ | a
  · have hc : c = 0 := by
      rcases Nat.eq_zero_or_pos c with h0 | h0
      · exact h0
      · obtain ⟨_, _, hA⟩ := hs.A h0; cases hA
    subst hc
    have hx : xs = [] := List.eq_nil_of_length_eq_zero (by simpa using hxl)
    subst hx
    have hL : L.set n (own e sz (.slice (some ⟨g, 0, none⟩) 0 0) 0 []) = L := by
      obtain ⟨h1, h2⟩ := List.getElem?_eq_some_iff.1 hn
      rw [← h2]; exact List.set_getElem_self h1
    unfold builtinK
    refine ⟨_, w, ?_, h (some ⟨g, 0, none⟩) 0 w (by rw [hL]; exact H)⟩
    show (do pure (.value (← Builtin.append_ #[t, t] ty #[.slice (some ⟨g, 0, none⟩) 0 0, .slice none 0 d])) : Sem Next).run P w = _
    simp [Builtin.append_, run_underlying T.und, sizeOf, typeInfo, hi, Builtin.lenOf, Builtin.firstCells, storeCells]
  · obtain ⟨v', w', hrun, hown', hg, _, hloc⟩ := run_append_own_at (P := P) w 0 t ty e i z sz b T.und hi hz hs' hb T.zs T.pos (.slice (some ⟨g, 0, none⟩) 0 0) 0 [] hown a c d xs hxl
      (fun j u hu => by
        have hjl := (List.getElem?_eq_some_iff.1 hu).1
        have hc : 0 < c := by
          rcases Nat.eq_zero_or_pos c with h0 | h0
          · subst h0; simp at hxl; subst hxl; simp at hjl
          · exact h0
        obtain ⟨g', o', ha⟩ := hs.A hc
        injection ha with ha
        subst ha
        have hadd : (⟨g', o', none⟩ : Addr).add j = ⟨g', o' + j, none⟩ := by unfold Addr.add; split <;> simp_all
        rw [hadd, hs.cell j (by omega), hu]) h1 (by unfold maxLen; omega) (by rw [Nat.zero_add]; exact hl) (Nat.zero_le _)
    rw [Nat.zero_add, List.nil_append] at hown'
    have hk : Keeps (own e sz (.slice (some ⟨g, 0, none⟩) 0 0) 0 []).foot w w' := ⟨hg.os, hg.tape, hg.output, hg.size, fun x hx hne => hg.block x hx fun e => hne e.symm⟩
    have H' := H.turn n hn (own e sz v' c xs) hk hown' (fun x hx => ⟨(World.ownsRow.lt (w := w') (base := 0) hown' x hx).2, by
      have hx' : v'.ownBlock = some x := hx
      rcases hloc with h | h
      · left; show Value.ownBlock _ = some x; rw [← h]; exact hx'
      · right; rw [h] at hx'; injection hx' with hx'; omega⟩)
    have hv : ∃ A d, v' = .slice A c d := by
      rcases hown'.2 with ⟨rfl, h0⟩ | ⟨g', cap, cur, hv, _⟩
      · exact ⟨none, 0, by rw [h0]⟩
      · exact ⟨_, _, hv⟩
    obtain ⟨A, d', rfl⟩ := hv
    unfold builtinK
    refine ⟨_, w', ?_, h A d' w' H'⟩
    show (do pure (.value (← Builtin.append_ #[t, t] ty #[.slice (some ⟨g, 0, none⟩) 0 0, .slice (some a) c d])) : Sem Next).run P w = _
    rw [Sem.run_bind, hrun]
    rfl
end
theorem flat_one4 (N : List RN) : ∀ v ∈ flat encN N, v.oneCell' = true := by
  intro v hv
  unfold flat at hv
  obtain ⟨x, _, hx⟩ := List.mem_flatMap.1 hv
  exact encN_one x v hx
theorem build64a {a : Int} {w : World} {kk : Value → World → Prop} (h : kk (rv a (.slice none 0 0)) w) : buildK Try.prog 64 [(0, .int .i64 a)] w kk := build_by (fun w => by kernel_rfl) h
theorem build64b {a : Int} {A : Option Addr} {l c : Nat} {w : World} {kk : Value → World → Prop} (h : kk (rv a (.slice A l c)) w) : buildK Try.prog 64 [(0, .int .i64 a), (1, .slice A l c)] w kk := build_by (fun w => by kernel_rfl) h
theorem build78z {w : World} {kk : Value → World → Prop} (h : kk z78 w) : buildK Try.prog 78 [] w kk := build_by (fun w => by kernel_rfl) h
theorem ab_set (N : List RN) (i : Nat) (n : Nd) : ab (N.set i (n, false)) = (ab N).set i (some n) := by unfold ab; rw [List.map_set]; rfl
theorem put_snoc {N : List RN} {n z : Nd} (h : freeA (ab N) = N.length) : ab ((N ++ [(z, false)]).set (freeA (ab N)) (n, false)) = putA (ab N) n := by
  rw [ab_set]
  unfold putA
  rw [if_pos (by rw [ab_length]; exact h), h]
  unfold ab
  rw [List.map_append, List.set_append_right _ _ (by simp)]
  simp
theorem put_set {N : List RN} {n : Nd} (h : freeA (ab N) ≠ N.length) : ab (N.set (freeA (ab N)) (n, false)) = putA (ab N) n := by
  rw [ab_set]
  unfold putA
  rw [if_neg (by rw [ab_length]; exact h)]
theorem size62 : sizeT Try.prog 62 = some 1 := by kernel_rfl
theorem zero64 : zeroT Try.prog 64 = some (rv 0 (.slice none 0 0)) := by kernel_rfl
theorem rc_one {room : Int} {A : Option Addr} {l c : Nat} : ∀ v ∈ (rc room (.slice A l c)).toList, v.oneCell' = true := by
  intro v hv
  simp [rc] at hv
  rcases hv with rfl | rfl <;> rfl
theorem ent69 : enters Try.prog 69 = true := by kernel_rfl
theorem c69_b (room : Int) (N : List RN) (B : Option Addr) (c : Nat) (l lo hi : Int) (hb : l < 0 ∨ 23 < l ∨ lvlA (ab N) lo ≤ l ∨ lvlA (ab N) hi ≤ l) (w : World) (hl : N.length ≤ 1000000) (hs : Sl w (.slice B N.length c) 4 N.length (flat encN N)) :
    Fun Try.prog 69 [rv room (.slice B N.length c), .int .i64 l, .int .i64 lo, .int .i64 hi] w fun v w' => v = .tuple #[rv room (.slice B N.length c), .int .i64 0, .int .i64 1] ∧ Same w w' := by
  refine fun_of_W (N := 114) Try.func69 ent69 rfl rfl rfl (by simp) ?_
  have H := Hp.start0 w
  refine H.box 64 (rv _ _) (cs := rc _ _) rfl ?_
  clear H
  intro g1 w1 H
  refine H.alloc 64 zero64 rfl ?_
  clear H
  intro g2 w2 H
  refine cond_dec (fun h3 => ?_) (fun h3 => ?_)
  · refine cond_yes (decide_eq_true (by assumption)) ?_
    refine cond_yes (decide_eq_true (by assumption)) ?_
    iterate 13 refine cond_yes rfl ?_
    refine H.loadAll 1 rfl agg64 size64 ?_
    refine H.storeAll 0 rfl size64 rfl (fun v hv => rc_one v hv) ?_ 
    clear H 
    intro w20 H
    refine H.loadAll 0 rfl agg64 size64 ?_
    refine ⟨rfl, ?_⟩
    exact ⟨rfl, H.keeps⟩
  · refine cond_no (decide_eq_false (by assumption)) ?_
    refine cond_no (decide_eq_false (by assumption)) ?_
    refine cond_dec (fun h26 => ?_) (fun h26 => ?_)
    · refine cond_yes (decide_eq_true (by assumption)) ?_
      iterate 4 refine cond_yes (decide_eq_true (by assumption)) ?_
      iterate 7 refine cond_yes rfl ?_
      refine H.loadAll 1 rfl agg64 size64 ?_
      refine H.storeAll 0 rfl size64 rfl (fun v hv => rc_one v hv) ?_ 
      clear H 
      intro w40 H
      refine H.loadAll 0 rfl agg64 size64 ?_
      refine ⟨rfl, ?_⟩
      exact ⟨rfl, H.keeps⟩
    · refine H.loadAll 1 rfl agg64 size64 ?_
      iterate 2 refine cond_no (decide_eq_false (by assumption)) ?_
      refine call_fn (c167 room N B c lo _ hl (hs.same H.keeps)) ?_ 
      rintro _ w47 ⟨rfl, hk⟩ 
      replace H := H.same hk 
      clear hk
      iterate 3 refine cond_no (decide_eq_false (by assumption)) ?_
      refine cond_dec (fun h51 => ?_) (fun h51 => ?_)
      · refine cond_yes (decide_eq_true (by assumption)) ?_
        iterate 4 refine cond_yes (decide_eq_true (by assumption)) ?_
        refine cond_yes rfl ?_
        refine H.loadAll 1 rfl agg64 size64 ?_
        refine H.storeAll 0 rfl size64 rfl (fun v hv => rc_one v hv) ?_ 
        clear H 
        intro w59 H
        refine H.loadAll 0 rfl agg64 size64 ?_
        refine ⟨rfl, ?_⟩
        exact ⟨rfl, H.keeps⟩
      · refine H.loadAll 1 rfl agg64 size64 ?_
        iterate 2 refine cond_no (decide_eq_false (by assumption)) ?_
        refine call_fn (c167 room N B c hi _ hl (hs.same H.keeps)) ?_ 
        rintro _ w66 ⟨rfl, hk⟩ 
        replace H := H.same hk 
        clear hk
        iterate 3 refine cond_no (decide_eq_false (by assumption)) ?_
        refine cond_yes (decide_eq_true (by omega)) ?_
        refine H.loadAll 1 rfl agg64 size64 ?_
        refine H.storeAll 0 rfl size64 rfl (fun v hv => rc_one v hv) ?_ 
        clear H 
        intro w72 H
        refine H.loadAll 0 rfl agg64 size64 ?_
        refine ⟨rfl, ?_⟩
        exact ⟨rfl, H.keeps⟩

/-- The lowest free place from k on. -/
def fr (A : Ar) (k : Nat) : Nat := k + (A.drop k).findIdx (·.isNone)
theorem fr_end (A : Ar) : fr A A.length = A.length := by unfold fr; simp
theorem fr_zero (A : Ar) : fr A 0 = freeA A := by unfold fr freeA; simp
theorem fr_step {A : Ar} {i : Nat} (hi : i < A.length) : fr A i = if (slot A i).isNone then i else fr A (i + 1) := by
  unfold fr
  have h : A.drop i = slot A i :: A.drop (i + 1) := by
    rw [List.drop_eq_getElem_cons hi]
    have := slot_get hi
    rw [List.getElem?_eq_getElem hi] at this
    injection this with this
    rw [this]
  rw [h, List.findIdx_cons]
  cases (slot A i).isNone
  · simp; omega
  · simp
theorem fr_le (A : Ar) {k : Nat} (hk : k ≤ A.length) : fr A k ≤ A.length := by
  unfold fr
  have := List.findIdx_le_length (xs := A.drop k) (p := fun x : Option Nd => x.isNone)
  rw [List.length_drop] at this; omega
theorem findA_not {A : Ar} {n : Nd} (h : ∀ j, slot A j ≠ some n) : findA A n = none := findA_none.2 h
/-- What Make answers in room, when the node's halves are right. -/
theorem c69_g (room : Int) (N : List RN) (B : Option Addr) (c : Nat) (n : Nd) (w : World) (hl : N.length ≤ 100000) (hs : Sl w (.slice B N.length c) 4 N.length (flat encN N)) (hu : Uniq (ab N))
    (h23 : (n.l : Int) ≤ 23) (h1 : (n.l : Int) < lvlA (ab N) n.lo) (h2 : (n.l : Int) < lvlA (ab N) n.hi) :
    Fun Try.prog 69 [rv room (.slice B N.length c), .int .i64 n.l, .int .i64 n.lo, .int .i64 n.hi] w fun v w' =>
      (∃ i, findA (ab N) n = some i ∧ v = .tuple #[rv room (.slice B N.length c), .int .i64 ((i + 2 : Nat) : Int), .int .i64 0] ∧ Same w w') ∨
      (findA (ab N) n = none ∧ room ≤ (liveA (ab N) : Int) ∧ v = .tuple #[rv room (.slice B N.length c), .int .i64 0, .int .i64 5] ∧ Same w w') ∨
      (findA (ab N) n = none ∧ (liveA (ab N) : Int) < room ∧ ∃ N' B' c', ab N' = putA (ab N) n ∧ v = .tuple #[rv room (.slice B' N'.length c'), .int .i64 ((freeA (ab N) + 2 : Nat) : Int), .int .i64 0] ∧
        NewR w w' (own 78 4 (.slice B' N'.length c') N'.length (flat encN N'))) := by
  refine fun_of_W (N := 114) Try.func69 ent69 rfl rfl rfl (by simp) ?_
  have H := Hp.start0 w
  refine H.box 64 (rv _ _) (cs := rc _ _) rfl ?_
  clear H
  intro g1 w1 H
  refine H.alloc 64 zero64 rfl ?_
  clear H
  intro g2 w2 H
  refine cut_rule (γ := Unit) _ rfl (fun _ => []) (fun _ w' => Hp.cl H w') ?_ ?_
  · iterate 3 refine cond_no rfl ?_
    refine cond_no (decide_eq_false (by omega)) ?_
    refine H.loadAll 1 rfl agg64 size64 ?_
    iterate 2 refine cond_no (decide_eq_false (by omega)) ?_
    refine call_fn (c167 room N B c n.lo _ (by omega) (hs.same H.keeps)) ?_ 
    rintro _ w10 ⟨rfl, hk⟩ 
    replace H := H.same hk 
    clear hk
    iterate 4 refine cond_no (decide_eq_false (by omega)) ?_
    refine H.loadAll 1 rfl agg64 size64 ?_
    iterate 2 refine cond_no (decide_eq_false (by omega)) ?_
    refine call_fn (c167 room N B c n.hi _ (by omega) (hs.same H.keeps)) ?_ 
    rintro _ w18 ⟨rfl, hk⟩ 
    replace H := H.same hk 
    clear hk
    iterate 4 refine cond_no (decide_eq_false (by omega)) ?_
    exact ⟨(), trivial, H⟩
  · rintro ⟨⟩ u w3 H1
    replace H : Hp _ _ _ _ _ := H1
    clear H1
    refine cut_rule (γ := Unit) _ rfl (fun _ => [(11, .int .i64 (N.length : Int))]) (fun _ w' => Hp.cl H w') ?_ ?_
    · refine fieldAddr_by (fa64_1 _) ?_
      refine H.load 1 rfl agg62 rfl ?_
      refine len_sl Try.underlying62 ?_
      exact ⟨(), ⟨rfl, trivial⟩, H⟩
    · rintro ⟨⟩ u w3 H1
      replace H : Hp _ _ _ _ _ := H1
      clear H1
      refine cut_rule (γ := Unit) _ rfl (fun _ => [(11, .int .i64 (freeA (ab N) : Int))]) (fun _ w' => (∀ j, slot (ab N) j ≠ some n) ∧ Hp.cl H w') ?_ ?_
      · refine fieldAddr_by (fa64_1 _) ?_
        refine H.load 1 rfl agg62 rfl ?_
        refine len_sl Try.underlying62 ?_
        have hw : IntKind.i64.wrap ((N.length : Int) - 1) = (N.length : Int) - 1 := by rw [IntKind.wrap_i64]; omega
        refine loop_rule (γ := Nat) _ rfl (fun k => [(12, .int .i64 ((k : Int) - 1)), (11, .int .i64 (fr (ab N) k : Int))]) (fun k w' => (k ≤ N.length ∧ ∀ j, k ≤ j → slot (ab N) j ≠ some n) ∧ Hp.cl H w') (fun k => k) N.length
          ⟨congrArg (Value.int .i64) hw, by have := fr_end (ab N); rw [ab_length] at this; rw [this]; rfl, trivial⟩ ⟨⟨Nat.le_refl _, fun j hj h => by have := slot_lt h; rw [ab_length] at this; omega⟩, H⟩ ?_
        rintro k u w4 ⟨⟨hk, hno⟩, H1⟩
        replace H : Hp _ _ _ _ _ := H1
        rcases k with _ | i
        · refine cond_no (decide_eq_false (by omega)) ?_
          exact ⟨(), ⟨by rw [← fr_zero]; rfl, trivial⟩, fun j => hno j (Nat.zero_le _), H1⟩
        · have hi : i < N.length := hk
          have e1 : ((i + 1 : Nat) : Int) - 1 = (i : Int) := by omega
          rw [e1]
          refine cond_yes (decide_eq_true (by omega)) ?_
          obtain ⟨⟨m, d⟩, hx⟩ : ∃ x, N[i]? = some x := ⟨_, List.getElem?_eq_getElem hi⟩
          have hsl := slot_ab hx
          have hfr := fr_step (A := ab N) (i := i) (by rw [ab_length]; omega)
          have hn1 := lvlA_range (A := ab N) (id := n.lo) (by omega)
          have hn2 := lvlA_range (A := ab N) (id := n.hi) (by omega)
          have ed : Value.int .i64 (IntKind.i64.wrap ((i : Int) - 1)) = .int .i64 ((i : Int) - 1) := by rw [IntKind.wrap_i64]; congr 1; omega
          obtain ⟨g0, o0, rfl⟩ := hs.A (by omega)
          refine fieldAddr_by (fa64_1 _) ?_
          refine H.load 1 rfl agg62 rfl ?_
          refine idxAddr_sl Try.underlying62 (s := 4) size78 i rfl hi (o' := o0 + i * 4) rfl ?_
          refine Sl.loadAgg H hs encN_length agg78 size78 i rfl hx ?_
          refine H.alloc 78 zero78 rfl ?_
          clear H
          intro g10 w10 H
          refine H.storeAll 0 rfl size78 rfl (fun v hv => encN_one (m, d) v hv) ?_
          clear H
          intro w11 H
          cases d with
          | true =>
            rw [if_pos rfl] at hsl
            replace hfr : fr (ab N) i = i := by rw [hfr, hsl]; rfl
            have hno' : ∀ j, i ≤ j → slot (ab N) j ≠ some n := fun j hj => by
              rcases Nat.lt_or_ge i j with h | h
              · exact hno j h
              · rw [show j = i by omega, hsl]; intro hh; cases hh
            have e11 : Value.int .i64 (i : Int) = .int .i64 (fr (ab N) i : Int) := by rw [hfr]
            refine fieldAddr_by (fa78_3 _) ?_
            refine H.load 0 rfl agg4 rfl ?_
            iterate 16 refine cond_no rfl ?_
            refine fieldAddr_by (fa78_3 _) ?_
            refine H.load 0 rfl agg4 rfl ?_
            refine cond_yes rfl ?_
            exact ⟨i, Nat.lt_succ_self i, ⟨ed, e11, trivial⟩, ⟨by omega, hno'⟩, H.forget⟩
          | false =>
            rw [if_neg (by simp)] at hsl
            rw [hsl, if_neg (by simp)] at hfr
            by_cases hmn : m = n
            · subst hmn
              have hf := (findA_some hu).2 hsl
              have ei : Value.int .i64 (IntKind.i64.wrap ((i : Int) + 2)) = .int .i64 ((i + 2 : Nat) : Int) := by rw [wlen2 (by omega)]
              refine fieldAddr_by (fa78_3 _) ?_
              refine H.load 0 rfl agg4 rfl ?_
              refine cond_yes rfl ?_
              refine fieldAddr_by (fa78_0 _) ?_
              refine cond_yes rfl ?_
              refine H.load 0 rfl agg3 rfl ?_
              iterate 3 refine cond_yes rfl ?_
              refine cond_yes (beq_self_eq_true _) ?_
              refine fieldAddr_by (fa78_1 _) ?_
              refine cond_yes (beq_self_eq_true _) ?_
              refine H.load 0 rfl agg3 rfl ?_
              iterate 4 refine cond_yes (beq_self_eq_true _) ?_
              refine fieldAddr_by (fa78_2 _) ?_
              refine cond_yes (beq_self_eq_true _) ?_
              refine H.load 0 rfl agg3 rfl ?_
              iterate 4 refine cond_yes (beq_self_eq_true _) ?_
              refine H.loadAll 2 rfl agg64 size64 ?_
              refine H.storeAll 1 rfl size64 rfl (fun v hv => rc_one v hv) ?_ 
              clear H 
              intro w33 H
              refine H.loadAll 1 rfl agg64 size64 ?_
              refine ⟨rfl, ?_⟩
              exact .inl ⟨i, hf, by rw [← ei]; rfl, H.keeps⟩
            · have hno' : ∀ j, i ≤ j → slot (ab N) j ≠ some n := fun j hj => by
                rcases Nat.lt_or_ge i j with h | h
                · exact hno j h
                · rw [show j = i by omega, hsl]; intro hh; injection hh with hh; exact hmn hh
              have e11 : Value.int .i64 (fr (ab N) (i + 1) : Int) = .int .i64 (fr (ab N) i : Int) := by rw [hfr]
              have hmn' : ¬ ((m.l : Int) = n.l ∧ (m.lo : Int) = n.lo ∧ (m.hi : Int) = n.hi) := fun ⟨h1, h2, h3⟩ => hmn (by cases m; cases n; simp only [Nd.mk.injEq]; exact ⟨Int.ofNat_inj.1 h1, Int.ofNat_inj.1 h2, Int.ofNat_inj.1 h3⟩)
              refine fieldAddr_by (fa78_3 _) ?_
              refine H.load 0 rfl agg4 rfl ?_
              refine cond_yes rfl ?_
              refine fieldAddr_by (fa78_0 _) ?_
              refine cond_yes rfl ?_
              refine H.load 0 rfl agg3 rfl ?_
              iterate 3 refine cond_yes rfl ?_
              refine cond_beq (fun h16 => ?_) (fun h16 => ?_)
              · refine fieldAddr_by (fa78_1 _) ?_
                refine cond_yes (beq_iff_eq.2 (by assumption)) ?_
                refine H.load 0 rfl agg3 rfl ?_
                iterate 3 refine cond_yes (beq_iff_eq.2 (by assumption)) ?_
                refine cond_beq (fun h24 => ?_) (fun h24 => ?_)
                · refine fieldAddr_by (fa78_2 _) ?_
                  refine cond_yes (beq_iff_eq.2 (by assumption)) ?_
                  refine H.load 0 rfl agg3 rfl ?_
                  iterate 3 refine cond_yes (beq_iff_eq.2 (by assumption)) ?_
                  refine cond_beq (fun h31 => ?_) (fun h31 => ?_)
                  · refine H.loadAll 2 rfl agg64 size64 ?_
                    refine H.storeAll 1 rfl size64 rfl (fun v hv => rc_one v hv) ?_ 
                    clear H 
                    intro w33 H
                    refine H.loadAll 1 rfl agg64 size64 ?_
                    exact absurd ⟨by assumption, by assumption, by assumption⟩ hmn'
                  · refine fieldAddr_by (fa78_3 _) ?_
                    refine H.load 0 rfl agg4 rfl ?_
                    refine cond_no rfl ?_
                    exact ⟨i, Nat.lt_succ_self i, ⟨ed, e11, trivial⟩, ⟨by omega, hno'⟩, H.forget⟩
                · refine cond_no (beq_eq_false_iff_ne.2 (by assumption)) ?_
                  iterate 3 refine cond_no (beq_eq_false_iff_ne.2 (by assumption)) ?_
                  refine cond_no rfl ?_
                  refine fieldAddr_by (fa78_3 _) ?_
                  refine H.load 0 rfl agg4 rfl ?_
                  refine cond_no rfl ?_
                  exact ⟨i, Nat.lt_succ_self i, ⟨ed, e11, trivial⟩, ⟨by omega, hno'⟩, H.forget⟩
              · refine cond_no (beq_eq_false_iff_ne.2 (by assumption)) ?_
                iterate 3 refine cond_no (beq_eq_false_iff_ne.2 (by assumption)) ?_
                iterate 6 refine cond_no rfl ?_
                refine fieldAddr_by (fa78_3 _) ?_
                refine H.load 0 rfl agg4 rfl ?_
                refine cond_no rfl ?_
                exact ⟨i, Nat.lt_succ_self i, ⟨ed, e11, trivial⟩, ⟨by omega, hno'⟩, H.forget⟩
      · rintro ⟨⟩ u w4 ⟨hno, H1⟩
        replace H : Hp _ _ _ _ _ := H1
        clear H1
        refine H.draw fol (by kernel_rfl) ?_
        clear H
        intro w5 H
        refine quiet _ (fun w H => H.loadAll 1 rfl agg64 size64 ⟨rfl, rfl⟩) ?_
        refine call_fn (c71 room N B c _ (by omega) (hs.same H.keeps)) ?_
        rintro _ w6 ⟨rfl, hk⟩
        replace H := H.same hk
        clear hk
        refine ⟨.inl H, ?_⟩
        refine quiet _ (fun w H => fieldAddr_by (fa64_0 _) ⟨rfl, rfl⟩) ?_
        refine quiet _ (fun w H => H.load 1 rfl agg3 rfl ⟨rfl, rfl⟩) ?_
        refine cond_dec (fun h9 => ?_) (fun h9 => ?_)
        · refine H.loadAll 1 rfl agg64 size64 ?_
          refine H.storeAll 0 rfl size64 rfl (fun v hv => rc_one v hv) ?_ 
          clear H 
          intro w7 H
          refine H.loadAll 0 rfl agg64 size64 ?_
          refine ⟨rfl, ?_⟩
          exact .inr (.inl ⟨findA_not hno, h9, rfl, H.keeps⟩)
        · refine cut_rule (γ := Nat × Option Addr × Nat) _ rfl (fun (g, _, _) => [(14, .pointer (some ⟨g, 0, none⟩))])
            (fun (g, A, d) w' => Hp w (fun _ => False) w' [blk g 64 (rc room (.slice A N.length d)), own 78 4 (.slice A N.length d) N.length (flat encN N), blk g2 64 (rv 0 (.slice none 0 0)).cells, blk g1 64 (rc room (.slice B N.length c))] []) ?_ ?_
          · refine draw_orders (fun w' => Hp w (fun _ => False) w' [blk g2 64 (rv 0 (.slice none 0 0)).cells, blk g1 64 (rc room (.slice B N.length c))] [])
              [([2, 5, 7, 8], [0, 1, 2, 3, 4, 5, 6, 7, 8]), ([2, 7, 5, 8], [0, 1, 2, 3, 4, 7, 5, 6, 8]), ([7, 2, 5, 8], [7, 0, 1, 2, 3, 4, 5, 6, 8])] fol (by kernel_rfl) (H.same (Keeps.drew _)) ?_
            replace H := (H.same (Keeps.drew _))
            intro x hx
            simp only [List.mem_cons, List.not_mem_nil, or_false] at hx
            rcases hx with rfl | rfl | rfl
            · refine quiet _ (fun w H => fieldAddr_by (fa64_0 _) ⟨rfl, rfl⟩) ?_
              refine quiet _ (fun w H => H.load 1 rfl agg3 rfl ⟨rfl, rfl⟩) ?_
              refine Hp.buildNil H T62 ?_ 
              clear H 
              intro g7 w7 H 
              refine ⟨.inl H.forget, ?_⟩
              refine quiet _ (fun w H => fieldAddr_by (fa64_1 _) ⟨rfl, rfl⟩) ?_
              refine quiet _ (fun w H => H.load 1 rfl agg62 rfl ⟨rfl, rfl⟩) ?_
              refine Hp.appendCopy H 0 T62 rfl (hs.same H.keeps) (flat_one4 N) (by omega) (by omega) ?_ 
              clear H 
              intro A d w8 H 
              refine ⟨.inl H.forget, ?_⟩
              refine quiet _ (fun w H => build64b ⟨rfl, rfl⟩) ?_
              refine H.alloc 64 zero64 rfl ?_ 
              clear H 
              intro g9 w9 H 
              refine ⟨.inl H.forget.forget, ?_⟩
              refine H.storeAll 0 rfl size64 rfl (fun v hv => rc_one v hv) ?_ 
              clear H 
              intro w10 H 
              refine ⟨.inl H.forget.forget, ?_⟩
              exact ⟨(g9, A, d), ⟨rfl, trivial⟩, H⟩
            · refine quiet _ (fun w H => fieldAddr_by (fa64_0 _) ⟨rfl, rfl⟩) ?_
              refine quiet _ (fun w H => H.load 1 rfl agg3 rfl ⟨rfl, rfl⟩) ?_
              refine Hp.buildNil H T62 ?_ 
              clear H 
              intro g7 w7 H 
              refine ⟨.inl H.forget, ?_⟩
              refine quiet _ (fun w H => fieldAddr_by (fa64_1 _) ⟨rfl, rfl⟩) ?_
              refine quiet _ (fun w H => H.load 1 rfl agg62 rfl ⟨rfl, rfl⟩) ?_
              refine H.alloc 64 zero64 rfl ?_ 
              clear H 
              intro g9 w9 H 
              refine ⟨.inl H.forget.forget, ?_⟩
              refine Hp.appendCopy H 1 T62 rfl (hs.same H.keeps) (flat_one4 N) (by omega) (by omega) ?_ 
              clear H 
              intro A d w8 H 
              refine ⟨.inl H.forget.forget, ?_⟩
              refine quiet _ (fun w H => build64b ⟨rfl, rfl⟩) ?_
              refine H.storeAll 0 rfl size64 rfl (fun v hv => rc_one v hv) ?_ 
              clear H 
              intro w10 H 
              refine ⟨.inl H.forget.forget, ?_⟩
              exact ⟨(g9, A, d), ⟨rfl, trivial⟩, H⟩
            · refine H.alloc 64 zero64 rfl ?_
              clear H
              intro g9 w9 H
              refine ⟨.inl H.forget, ?_⟩
              refine quiet _ (fun w H => fieldAddr_by (fa64_0 _) ⟨rfl, rfl⟩) ?_
              refine quiet _ (fun w H => H.load 1 rfl agg3 rfl ⟨rfl, rfl⟩) ?_
              refine Hp.buildNil H T62 ?_ 
              clear H 
              intro g7 w7 H 
              refine ⟨.inl H.forget.forget, ?_⟩
              refine quiet _ (fun w H => fieldAddr_by (fa64_1 _) ⟨rfl, rfl⟩) ?_
              refine quiet _ (fun w H => H.load 1 rfl agg62 rfl ⟨rfl, rfl⟩) ?_
              refine Hp.appendCopy H 0 T62 rfl (hs.same H.keeps) (flat_one4 N) (by omega) (by omega) ?_ 
              clear H 
              intro A d w8 H 
              refine ⟨.inl H.forget.forget, ?_⟩
              refine quiet _ (fun w H => build64b ⟨rfl, rfl⟩) ?_
              refine H.storeAll 1 rfl size64 rfl (fun v hv => rc_one v hv) ?_ 
              clear H 
              intro w10 H 
              refine ⟨.inl H.forget.forget, ?_⟩
              exact ⟨(g9, A, d), ⟨rfl, trivial⟩, H.front 1 rfl⟩
          · clear H
            rintro ⟨g3, A, d⟩ u w8 H
            replace H : Hp _ _ _ _ _ := H
            have hfl := freeA_le (ab N)
            rw [ab_length] at hfl
            refine cut_rule (γ := List RN × Option Addr × Nat) _ rfl (fun _ => [])
              (fun (N1, A, d) w' => (freeA (ab N) < N1.length ∧ ab (N1.set (freeA (ab N)) (n, false)) = putA (ab N) n) ∧ Hp w (fun _ => False) w' [blk g3 64 (rc room (.slice A N1.length d)), own 78 4 (.slice A N1.length d) N1.length (flat encN N1), blk g2 64 (rv 0 (.slice none 0 0)).cells, blk g1 64 (rc room (.slice B N.length c))] []) ?_ ?_
            · refine fieldAddr_by (fa64_1 _) ?_
              refine H.load 0 rfl agg62 rfl ?_
              refine len_sl Try.underlying62 ?_
              refine cond_beq (fun h12 => ?_) (fun h12 => ?_)
              · have h12 : freeA (ab N) = N.length := by omega
                refine fieldAddr_by (fa64_1 _) ?_
                refine H.load 0 rfl agg62 rfl ?_
                refine build78z ?_
                refine H.buildSl T62 (cs := (encN (⟨0, 0, 0⟩, false)).toArray) (by decide) (by decide) (by kernel_rfl) ?_
                clear H
                intro g5 w9 H
                refine H.appendBlk 2 0 T62 rfl rfl rfl (encN_one _) (by omega) (by omega) ?_
                clear H
                intro A1 d1 w10 H
                refine fieldAddr_by (fa64_1 _) ?_
                refine H.store 1 rfl size62 (by show 1 < 2; decide) rfl ?_
                clear H
                intro w11 H
                have hli : (N ++ [((⟨0, 0, 0⟩ : Nd), false)]).length = N.length + 1 := by simp
                exact ⟨(N ++ [(⟨0, 0, 0⟩, false)], A1, d1), trivial, ⟨by rw [hli]; omega, put_snoc h12⟩, by rw [hli, flat_snoc]; exact H.forget⟩
              · have h12 : freeA (ab N) ≠ N.length := by omega
                exact ⟨(N, A, d), trivial, ⟨by omega, put_set h12⟩, H⟩
            · clear H
              rintro ⟨N1, A, d⟩ u w9 ⟨⟨hf, hput⟩, H⟩
              obtain ⟨g6, rfl⟩ := H.ownA 1 rfl (by omega)
              have hfw : IntKind.i64.wrap ((freeA (ab N) : Int) + 2) = ((freeA (ab N) + 2 : Nat) : Int) := wlen2 (by omega)
              refine fieldAddr_by (fa64_1 _) ?_
              refine H.load 0 rfl agg62 rfl ?_
              refine build78 ?_
              refine idxAddr_sl Try.underlying62 (s := 4) size78 _ rfl hf (o' := freeA (ab N) * 4) (by omega) ?_
              refine H.storeOwnAgg 1 (n, false) rfl encN_length size78 _ rfl hf rfl (encN_one _) ?_
              clear H
              intro w12 H
              have hln : (N1.set (freeA (ab N)) (n, false)).length = N1.length := List.length_set ..
              refine H.loadAll 0 rfl agg64 size64 ?_
              refine H.storeAll 2 rfl size64 rfl (fun v hv => rc_one v hv) ?_ 
              clear H 
              intro w10 H
              refine H.loadAll 2 rfl agg64 size64 ?_
              refine ⟨rfl, ?_⟩
              exact .inr (.inr ⟨findA_not hno, by omega, N1.set (freeA (ab N)) (n, false), _, d, hput, by rw [← hfw, hln]; rfl, by rw [hln]; exact H.outAt 1 rfl⟩)
/-- Make of the reference: what mkA says. -/
theorem c69 (room : Int) (N : List RN) (B : Option Addr) (c : Nat) (l lo hi : Int) (w : World) (hl : N.length ≤ 100000) (hs : Sl w (.slice B N.length c) 4 N.length (flat encN N)) (hinv : ArInv (ab N)) :
    Fun Try.prog 69 [rv room (.slice B N.length c), .int .i64 l, .int .i64 lo, .int .i64 hi] w fun v w' =>
      ∃ N' B' c', ab N' = (mkA room (ab N) l lo hi).1 ∧ v = .tuple #[rv room (.slice B' N'.length c'), .int .i64 (mkA room (ab N) l lo hi).2.1, .int .i64 (mkA room (ab N) l lo hi).2.2] ∧
        ((N' = N ∧ B' = B ∧ c' = c ∧ Same w w') ∨ NewR w w' (own 78 4 (.slice B' N'.length c') N'.length (flat encN N'))) := by
  have h1 := lvlA_le hinv lo
  by_cases hb : l < 0 ∨ lvlA (ab N) lo ≤ l ∨ lvlA (ab N) hi ≤ l
  · refine (c69_b room N B c l lo hi (by omega) w (by omega) hs).mono ?_
    rintro v w' ⟨rfl, hk⟩
    unfold mkA
    rw [if_pos hb]
    exact ⟨N, B, c, rfl, rfl, .inl ⟨rfl, rfl, rfl, hk⟩⟩
  · have g1 : 0 ≤ lo := by
      rcases lvlA_node (A := ab N) (id := lo) (by omega) with rfl | rfl | ⟨i, n, rfl, _⟩ <;> omega
    have g2 : 0 ≤ hi := by
      rcases lvlA_node (A := ab N) (id := hi) (by omega) with rfl | rfl | ⟨i, n, rfl, _⟩ <;> omega
    have e : mkA room (ab N) l lo hi = (match findA (ab N) ⟨l.toNat, lo.toNat, hi.toNat⟩ with
      | some i => (ab N, ((i + 2 : Nat) : Int), 0)
      | none => if room ≤ (liveA (ab N) : Int) then (ab N, 0, 5) else (putA (ab N) ⟨l.toNat, lo.toNat, hi.toNat⟩, ((freeA (ab N) + 2 : Nat) : Int), 0)) := by
      unfold mkA; rw [if_neg hb]; rfl
    rw [e]
    have hg := c69_g room N B c ⟨l.toNat, lo.toNat, hi.toNat⟩ w hl hs hinv.uniq (by show ((l.toNat : Nat) : Int) ≤ 23; omega)
      (by show ((l.toNat : Nat) : Int) < lvlA (ab N) ((lo.toNat : Nat) : Int); rw [Int.toNat_of_nonneg g1]; omega)
      (by show ((l.toNat : Nat) : Int) < lvlA (ab N) ((hi.toNat : Nat) : Int); rw [Int.toNat_of_nonneg g2]; omega)
    have e1 : ((l.toNat : Nat) : Int) = l := Int.toNat_of_nonneg (by omega)
    have e2 : ((lo.toNat : Nat) : Int) = lo := Int.toNat_of_nonneg g1
    have e3 : ((hi.toNat : Nat) : Int) = hi := Int.toNat_of_nonneg g2
    simp only [e1, e2, e3] at hg
    refine hg.mono ?_
    rintro v w' (⟨i, hf, rfl, hk⟩ | ⟨hf, hr, rfl, hk⟩ | ⟨hf, hr, N', B', c', hp, rfl, hn⟩)
    · rw [hf]; exact ⟨N, B, c, rfl, rfl, .inl ⟨rfl, rfl, rfl, hk⟩⟩
    · rw [hf]; simp only [if_pos hr]; exact ⟨N, B, c, rfl, rfl, .inl ⟨rfl, rfl, rfl, hk⟩⟩
    · rw [hf]; simp only [if_neg (show ¬ room ≤ (liveA (ab N) : Int) by omega)]; exact ⟨N', B', c', hp, rfl, .inr hn⟩
end Go.Proofs.Ytjebpngdinbckaa
end

section
/- Coverings: rows of columns, how they lie in memory, and the small functions on rows. -/
namespace Go.Proofs.Ytjebpngdinbckaa
open Go.Dk
attribute [local irreducible] IntKind.wrap

theorem not_snoc {k x : Int} {l : List Int} (h : k ∉ l) (hx : x ≠ k) : k ∉ l ++ [x] := by
  simp only [List.mem_append, List.mem_singleton]
  rintro (h' | h')
  · exact h h'
  · exact hx h'.symm
theorem ent174 : enters Try.prog 174 = true := by kernel_rfl
theorem c174 (ks : List Int) (B : Option Addr) (c : Nat) (k : Int) (w : World) (hl : ks.length ≤ 1000000000) (hs : Sl w (.slice B ks.length c) 1 ks.length (intsI ks)) :
    Fun Try.prog 174 [.slice B ks.length c, .int .i64 k] w fun v w' => v = .bool (decide (k ∈ ks)) ∧ Same w w' := by
  refine fun_of_W (N := 17) Try.func174 ent174 rfl rfl rfl (by simp) ?_
  have H := Hp.start0 w
  refine cut_rule (γ := Unit) _ rfl (fun _ => []) (fun _ w' => Hp.cl H w') ⟨(), trivial, H⟩ ?_
  rintro ⟨⟩ u w0 H1
  replace H : Hp _ _ _ _ _ := H1
  clear H1
  refine cut_rule (γ := Unit) _ rfl (fun _ => []) (fun _ w' => k ∉ ks ∧ Hp.cl H w') ?_ ?_
  · refine len_sl Try.underlying32 ?_
    refine loop_rule (γ := Nat) _ rfl (fun i => [(9, .int .i64 (i : Int))]) (fun i w' => (i ≤ ks.length ∧ k ∉ ks.take i) ∧ Hp.cl H w') (fun i => ks.length - i) 0 ⟨rfl, trivial⟩ ⟨⟨Nat.zero_le _, by simp⟩, H⟩ ?_
    rintro i u w1 ⟨⟨hi, hno⟩, H1⟩
    replace H : Hp _ _ _ _ _ := H1
    refine cond_dec (fun h7 => ?_) (fun h7 => ?_)
    · obtain ⟨x, hx⟩ : ∃ x, ks[i]? = some x := ⟨_, List.getElem?_eq_getElem (by omega)⟩
      obtain ⟨g0, o0, rfl⟩ := hs.A (by omega)
      have hget : (intsI ks)[i]? = some (.int .i64 x) := by rw [intsI, List.getElem?_map, hx]; rfl
      have htk : ks.take (i + 1) = ks.take i ++ [x] := by rw [List.take_add_one, hx]; rfl
      refine idxAddr_sl Try.underlying32 (s := 1) size3 i rfl (by omega) (o' := o0 + i) (by omega) ?_
      refine H.loadSl (i := i) hs agg3 _ rfl hget ?_
      refine cond_beq (fun h4 => ?_) (fun h4 => ?_)
      · refine ⟨congrArg Value.bool ?_, H.keeps⟩
        exact (decide_eq_true (by rw [← h4]; exact List.mem_of_getElem? hx)).symm
      · exact ⟨i + 1, by show ks.length - (i + 1) < ks.length - i; omega, ⟨up (by omega), trivial⟩, ⟨by show i + 1 ≤ ks.length; omega, by rw [htk]; exact not_snoc hno h4⟩, H⟩
    · have : i = ks.length := by omega
      subst this
      rw [List.take_length] at hno
      exact ⟨(), trivial, hno, H⟩
  · rintro ⟨⟩ u w1 ⟨hno, H1⟩
    exact ⟨by rw [decide_eq_false hno]; rfl, H1.keeps⟩
theorem ent127 : enters Try.prog 127 = true := by kernel_rfl
theorem c127 (ks : List Int) (B : Option Addr) (c : Nat) (k : Int) (w : World) (hl : ks.length ≤ 1000000000) (hs : Sl w (.slice B ks.length c) 1 ks.length (intsI ks)) :
    Fun Try.prog 127 [.slice B ks.length c, .int .i64 k] w fun v w' => v = .bool (decide (k ∈ ks)) ∧ Same w w' := by
  refine fun_of_W (N := 18) Try.func127 ent127 rfl rfl rfl (by simp) ?_
  have H := Hp.start0 w
  refine cut_rule (γ := Unit) _ rfl (fun _ => []) (fun _ w' => Hp.cl H w') ⟨(), trivial, H⟩ ?_
  rintro ⟨⟩ u w0 H1
  replace H : Hp _ _ _ _ _ := H1
  clear H1
  refine cut_rule (γ := Unit) _ rfl (fun _ => []) (fun _ w' => k ∉ ks ∧ Hp.cl H w') ?_ ?_
  · refine loop_rule (γ := Nat) _ rfl (fun i => [(5, .int .i64 (i : Int))]) (fun i w' => (i ≤ ks.length ∧ k ∉ ks.take i) ∧ Hp.cl H w') (fun i => ks.length - i) 0 ⟨rfl, trivial⟩ ⟨⟨Nat.zero_le _, by simp⟩, H⟩ ?_
    rintro i u w1 ⟨⟨hi, hno⟩, H1⟩
    replace H : Hp _ _ _ _ _ := H1
    refine len_sl Try.underlying32 ?_
    refine cond_dec (fun h7 => ?_) (fun h7 => ?_)
    · obtain ⟨x, hx⟩ : ∃ x, ks[i]? = some x := ⟨_, List.getElem?_eq_getElem (by omega)⟩
      obtain ⟨g0, o0, rfl⟩ := hs.A (by omega)
      have hget : (intsI ks)[i]? = some (.int .i64 x) := by rw [intsI, List.getElem?_map, hx]; rfl
      have htk : ks.take (i + 1) = ks.take i ++ [x] := by rw [List.take_add_one, hx]; rfl
      refine idxAddr_sl Try.underlying32 (s := 1) size3 i rfl (by omega) (o' := o0 + i) (by omega) ?_
      refine H.loadSl (i := i) hs agg3 _ rfl hget ?_
      refine cond_beq (fun h4 => ?_) (fun h4 => ?_)
      · refine ⟨congrArg Value.bool ?_, H.keeps⟩
        exact (decide_eq_true (by rw [← h4]; exact List.mem_of_getElem? hx)).symm
      · exact ⟨i + 1, by show ks.length - (i + 1) < ks.length - i; omega, ⟨up (by omega), trivial⟩, ⟨by show i + 1 ≤ ks.length; omega, by rw [htk]; exact not_snoc hno h4⟩, H⟩
    · have : i = ks.length := by omega
      subst this
      rw [List.take_length] at hno
      exact ⟨(), trivial, hno, H⟩
  · rintro ⟨⟩ u w1 ⟨hno, H1⟩
    exact ⟨by rw [decide_eq_false hno]; rfl, H1.keeps⟩
theorem all_snoc {l : List Int} {i : Nat} {x : Int} (p : Int → Bool) (hx : l[i]? = some x) : (l.take (i + 1)).all p = ((l.take i).all p && p x) := by
  rw [List.take_add_one, hx]; simp
theorem ent175 : enters Try.prog 175 = true := by kernel_rfl
theorem c175 (a b : List Int) (A B : Option Addr) (ca cb : Nat) (w : World) (hl : a.length ≤ 1000000000) (hl' : b.length ≤ 1000000000) (ha : Sl w (.slice A a.length ca) 1 a.length (intsI a)) (hb : Sl w (.slice B b.length cb) 1 b.length (intsI b)) :
    Fun Try.prog 175 [.slice A a.length ca, .slice B b.length cb] w fun v w' => v = .bool (withinB a b) ∧ Same w w' := by
  refine fun_of_W (N := 18) Try.func175 ent175 rfl rfl rfl (by simp) ?_
  have H := Hp.start0 w
  refine cut_rule (γ := Unit) _ rfl (fun _ => []) (fun _ w' => Hp.cl H w') ⟨(), trivial, H⟩ ?_
  rintro ⟨⟩ u w0 H1
  replace H : Hp _ _ _ _ _ := H1
  clear H1
  refine cut_rule (γ := Unit) _ rfl (fun _ => []) (fun _ w' => withinB a b = true ∧ Hp.cl H w') ?_ ?_
  · refine len_sl Try.underlying32 ?_
    refine loop_rule (γ := Nat) _ rfl (fun i => [(9, .int .i64 (i : Int))]) (fun i w' => (i ≤ a.length ∧ (a.take i).all (fun k => decide (k ∈ b)) = true) ∧ Hp.cl H w') (fun i => a.length - i) 0 ⟨rfl, trivial⟩ ⟨⟨Nat.zero_le _, by simp⟩, H⟩ ?_
    rintro i u w1 ⟨⟨hi, hyes⟩, H1⟩
    replace H : Hp _ _ _ _ _ := H1
    refine cond_dec (fun h7 => ?_) (fun h7 => ?_)
    · obtain ⟨x, hx⟩ : ∃ x, a[i]? = some x := ⟨_, List.getElem?_eq_getElem (by omega)⟩
      obtain ⟨g0, o0, rfl⟩ := ha.A (by omega)
      have hget : (intsI a)[i]? = some (.int .i64 x) := by rw [intsI, List.getElem?_map, hx]; rfl
      have hsn := all_snoc (fun k => decide (k ∈ b)) hx
      rw [hyes, Bool.true_and] at hsn
      refine idxAddr_sl Try.underlying32 (s := 1) size3 i rfl (by omega) (o' := o0 + i) (by omega) ?_
      refine H.loadSl (i := i) ha agg3 _ rfl hget ?_
      refine call_fn (c174 b B cb x _ hl' (hb.same H.keeps)) ?_ 
      rintro _ w4 ⟨rfl, hk⟩ 
      replace H := H.same hk 
      clear hk
      refine cond_split (fun h5 => ?_) (fun h5 => ?_)
      · refine ⟨congrArg Value.bool ?_, H.keeps⟩
        have h5' : x ∉ b := by simpa using h5
        symm
        rw [Bool.eq_false_iff]
        exact fun hh => h5' (withinB_iff.1 hh x (List.mem_of_getElem? hx))
      · exact ⟨i + 1, by show a.length - (i + 1) < a.length - i; omega, ⟨up (by omega), trivial⟩, ⟨by show i + 1 ≤ a.length; omega, by rw [hsn]; simpa using h5⟩, H⟩
    · have : i = a.length := by omega
      subst this
      rw [List.take_length] at hyes
      exact ⟨(), trivial, hyes, H⟩
  · rintro ⟨⟩ u w1 ⟨hno, H1⟩
    exact ⟨by rw [hno]; rfl, H1.keeps⟩
theorem ent177 : enters Try.prog 177 = true := by kernel_rfl
theorem cnt_snoc {l : List Int} {i : Nat} {x : Int} (p : Int → Bool) (hx : l[i]? = some x) : (l.take (i + 1)).countP p = (l.take i).countP p + if p x then 1 else 0 := by
  rw [List.take_add_one, hx, List.countP_append]
  cases h : p x <;> simp [h]
theorem within_cnt (a b : List Int) : (((a.countP fun k => decide (k ∈ b) : Nat) : Int) == (a.length : Int)) = withinB a b := by
  rw [Bool.eq_iff_iff, beq_iff_eq, withinB_iff, Int.ofNat_inj, List.countP_eq_length]
  simp
theorem c177 (a b : List Int) (A B : Option Addr) (ca cb : Nat) (w : World) (hl : a.length ≤ 1000000000) (hl' : b.length ≤ 1000000000) (ha : Sl w (.slice A a.length ca) 1 a.length (intsI a)) (hb : Sl w (.slice B b.length cb) 1 b.length (intsI b)) :
    Fun Try.prog 177 [.slice A a.length ca, .slice B b.length cb] w fun v w' => v = .bool (withinB a b) ∧ Same w w' := by
  refine fun_of_W (N := 25) Try.func177 ent177 rfl rfl rfl (by simp) ?_
  have H := Hp.start0 w
  refine cut_rule (γ := Unit) _ rfl (fun _ => []) (fun _ w' => Hp.cl H w') ⟨(), trivial, H⟩ ?_
  rintro ⟨⟩ u w0 H1
  replace H : Hp _ _ _ _ _ := H1
  clear H1
  refine cut_rule (γ := Unit) _ rfl (fun _ => [(5, .int .i64 0)]) (fun _ w' => Hp.cl H w') ⟨(), ⟨rfl, trivial⟩, H⟩ ?_
  rintro ⟨⟩ u w0 H1
  replace H : Hp _ _ _ _ _ := H1
  clear H1
  refine cut_rule (γ := Unit) _ rfl (fun _ => [(5, .int .i64 ((a.countP fun k => decide (k ∈ b) : Nat) : Int))]) (fun _ w' => Hp.cl H w') ?_ ?_
  · refine loop_rule (γ := Nat) _ rfl (fun i => [(6, .int .i64 (i : Int)), (5, .int .i64 (((a.take i).countP fun k => decide (k ∈ b) : Nat) : Int))]) (fun i w' => i ≤ a.length ∧ Hp.cl H w') (fun i => a.length - i) 0 ⟨rfl, rfl, trivial⟩ ⟨Nat.zero_le _, H⟩ ?_
    rintro i u w1 ⟨hi, H1⟩
    replace H : Hp _ _ _ _ _ := H1
    refine len_sl Try.underlying32 ?_
    refine cond_dec (fun h7 => ?_) (fun h7 => ?_)
    · obtain ⟨x, hx⟩ : ∃ x, a[i]? = some x := ⟨_, List.getElem?_eq_getElem (by omega)⟩
      obtain ⟨g0, o0, rfl⟩ := ha.A (by omega)
      have hget : (intsI a)[i]? = some (.int .i64 x) := by rw [intsI, List.getElem?_map, hx]; rfl
      have hsn := cnt_snoc (fun k => decide (k ∈ b)) hx
      have hcl : (a.take i).countP (fun k => decide (k ∈ b)) ≤ 1000000000 := Nat.le_trans List.countP_le_length (by rw [List.length_take]; omega)
      refine idxAddr_sl Try.underlying32 (s := 1) size3 i rfl (by omega) (o' := o0 + i) (by omega) ?_
      refine H.loadSl (i := i) ha agg3 _ rfl hget ?_
      refine call_fn (c127 b B cb x _ hl' (hb.same H.keeps)) ?_ 
      rintro _ w4 ⟨rfl, hk⟩ 
      replace H := H.same hk 
      clear hk
      refine cond_dec (fun h5 => ?_) (fun h5 => ?_)
      · rw [decide_eq_true h5, if_pos rfl] at hsn
        exact ⟨i + 1, by show a.length - (i + 1) < a.length - i; omega, ⟨up (by omega), by rw [hsn]; exact up (by omega), trivial⟩, by show i + 1 ≤ a.length; omega, H⟩
      · rw [decide_eq_false h5, if_neg (by decide), Nat.add_zero] at hsn
        exact ⟨i + 1, by show a.length - (i + 1) < a.length - i; omega, ⟨up (by omega), by rw [hsn]; rfl, trivial⟩, by show i + 1 ≤ a.length; omega, H⟩
    · have : i = a.length := by omega
      subst this
      rw [List.take_length]
      exact ⟨(), ⟨rfl, trivial⟩, H⟩
  · rintro ⟨⟩ u w1 H1
    replace H : Hp _ _ _ _ _ := H1
    clear H1
    refine len_sl Try.underlying32 ?_
    exact ⟨by rw [← within_cnt]; rfl, H.keeps⟩
end Go.Proofs.Ytjebpngdinbckaa
end

section
/- Coverings in memory. -/
namespace Go.Proofs.Ytjebpngdinbckaa
open Go.Dk
attribute [local irreducible] IntKind.wrap

/-- A row that lies in S. -/
def rowV (S : Nat → Prop) (w : World) (v : Value) (ks : List Int) : Prop := ∃ B c, v = .slice B ks.length c ∧ (sl S (.slice B ks.length c) 1 ks.length (intsI ks)).ok w
def matOk (S : Nat → Prop) (v : Value) (R : Mat) (w : World) : Prop :=
  ∃ B c vs, v = .slice B R.length c ∧ (sl S (.slice B R.length c) 1 R.length vs).ok w ∧ ∀ (i : Nat) (u : Value) (ks : List Int), vs[i]? = some u → R[i]? = some ks → rowV S w u ks
/-- A covering's rows: a slice of rows, all in S. -/
def MatR (S : Nat → Prop) (v : Value) (R : Mat) : Res :=
  ⟨S, matOk S v R, fun w w' h ⟨B, c, vs, hv, hs, hr⟩ => ⟨B, c, vs, hv, (sl _ _ _ _ _).stable w w' h hs, fun i u ks h1 h2 => by
      obtain ⟨B', c', hv', hs'⟩ := hr i u ks h1 h2
      exact ⟨B', c', hv', (sl _ _ _ _ _).stable w w' h hs'⟩⟩⟩
theorem MatR.mono {S S' : Nat → Prop} {v : Value} {R : Mat} {w : World} (h : matOk S v R w) (hS : ∀ g, S g → S' g) : matOk S' v R w := by
  obtain ⟨B, c, vs, hv, hs, hr⟩ := h
  exact ⟨B, c, vs, hv, sl.mono hs hS, fun i u ks h1 h2 => by
    obtain ⟨B', c', hv', hs'⟩ := hr i u ks h1 h2
    exact ⟨B', c', hv', sl.mono hs' hS⟩⟩
/-- A covering's rows at a call's world. -/
def MatAt (w : World) (v : Value) (R : Mat) : Prop := matOk (fun g => g < w.heap.size) v R w
theorem MatAt.same {w w' : World} {v : Value} {R : Mat} (h : MatAt w v R) (hk : Same w w') : MatAt w' v R :=
  MatR.mono ((MatR (fun g => g < w.heap.size) v R).stable w w' (fun g hg => hk.old g hg id) h) fun _ hg => Nat.lt_of_lt_of_le hg hk.size
/-- Opened: the headers, and each row. -/
theorem MatAt.openM {w : World} {v : Value} {R : Mat} (h : MatAt w v R) : ∃ B c vs, v = .slice B R.length c ∧ Sl w (.slice B R.length c) 1 R.length vs ∧
    ∀ (i : Nat) (ks : List Int), R[i]? = some ks → ∃ B' c', vs[i]? = some (.slice B' ks.length c') ∧ Sl w (.slice B' ks.length c') 1 ks.length (intsI ks) := by
  obtain ⟨B, c, vs, hv, hs, hr⟩ := h
  refine ⟨B, c, vs, hv, hs, fun i ks hi => ?_⟩
  have hil := (List.getElem?_eq_some_iff.1 hi).1
  have hvl : vs.length = R.length := by have := hs.1; omega
  have hu : vs[i]? = some (vs[i]'(by omega)) := List.getElem?_eq_getElem (by omega)
  obtain ⟨B', c', hv', hs'⟩ := hr i _ ks hu hi
  exact ⟨B', c', by rw [hu, hv'], hs'⟩
theorem ent91 : enters Try.prog 91 = true := by kernel_rfl
theorem c91 (a b : List Int) (A B : Option Addr) (ca cb : Nat) (w : World) (hl : a.length ≤ 1000000000) (hl' : b.length ≤ 1000000000) (ha : Sl w (.slice A a.length ca) 1 a.length (intsI a)) (hb : Sl w (.slice B b.length cb) 1 b.length (intsI b)) :
    Fun Try.prog 91 [.slice A a.length ca, .slice B b.length cb] w fun v w' => v = .bool (decide (a = b)) ∧ Same w w' := by
  refine fun_of_W (N := 26) Try.func91 ent91 rfl rfl rfl (by simp) ?_
  have H := Hp.start0 w
  refine cut_rule (γ := Unit) _ rfl (fun _ => []) (fun _ w' => Hp.cl H w') ⟨(), trivial, H⟩ ?_
  rintro ⟨⟩ u w0 H1
  replace H : Hp _ _ _ _ _ := H1
  clear H1
  by_cases hlen : a.length = b.length
  · refine len_sl Try.underlying32 ?_
    refine len_sl Try.underlying32 ?_
    refine cond_no (by rw [hlen]; exact bne_self_eq_false _) ?_
    refine cut_rule (γ := Unit) _ rfl (fun _ => []) (fun _ w' => a = b ∧ Hp.cl H w') ?_ ?_
    · refine loop_rule (γ := Nat) _ rfl (fun i => [(5, .int .i64 (i : Int))]) (fun i w' => (i ≤ a.length ∧ a.take i = b.take i) ∧ Hp.cl H w') (fun i => a.length - i) 0 ⟨rfl, trivial⟩ ⟨⟨Nat.zero_le _, rfl⟩, H⟩ ?_
      rintro i u w1 ⟨⟨hi, heq⟩, H1⟩
      replace H : Hp _ _ _ _ _ := H1
      refine len_sl Try.underlying32 ?_
      refine cond_dec (fun h7 => ?_) (fun h7 => ?_)
      · obtain ⟨x, hx⟩ : ∃ x, a[i]? = some x := ⟨_, List.getElem?_eq_getElem (by omega)⟩
        obtain ⟨y, hy⟩ : ∃ y, b[i]? = some y := ⟨_, List.getElem?_eq_getElem (by omega)⟩
        obtain ⟨g0, o0, rfl⟩ := ha.A (by omega)
        obtain ⟨g1, o1, rfl⟩ := hb.A (by omega)
        have hget : (intsI a)[i]? = some (.int .i64 x) := by rw [intsI, List.getElem?_map, hx]; rfl
        have hget' : (intsI b)[i]? = some (.int .i64 y) := by rw [intsI, List.getElem?_map, hy]; rfl
        have hta : a.take (i + 1) = a.take i ++ [x] := by rw [List.take_add_one, hx]; rfl
        have htb : b.take (i + 1) = b.take i ++ [y] := by rw [List.take_add_one, hy]; rfl
        refine H.draw fol (by kernel_rfl) ?_
        clear H
        intro w2 H
        refine quiet _ (fun w H => idxAddr_sl Try.underlying32 (s := 1) size3 i rfl (by omega) (o' := o0 + i) (by omega) ⟨rfl, rfl⟩) ?_
        refine quiet _ (fun w H => H.loadSl (i := i) ha agg3 _ rfl hget ⟨rfl, rfl⟩) ?_
        refine quiet _ (fun w H => idxAddr_sl Try.underlying32 (s := 1) size3 i rfl (by omega) (o' := o1 + i) (by omega) ⟨rfl, rfl⟩) ?_
        refine quiet _ (fun w H => H.loadSl (i := i) hb agg3 _ rfl hget' ⟨rfl, rfl⟩) ?_
        refine cond_bne (fun h8 => ?_) (fun h8 => ?_)
        · refine ⟨congrArg Value.bool ?_, H.keeps⟩
          symm
          rw [decide_eq_false_iff_not]
          rintro rfl
          rw [hx] at hy
          injection hy with hy
          exact h8 hy
        · exact ⟨i + 1, by show a.length - (i + 1) < a.length - i; omega, ⟨up (by omega), trivial⟩, ⟨by show i + 1 ≤ a.length; omega, by rw [hta, htb, heq, h8]⟩, H⟩
      · have : i = a.length := by omega
        subst this
        rw [List.take_length, hlen, List.take_length] at heq
        exact ⟨(), trivial, heq, H⟩
    · rintro ⟨⟩ u w1 ⟨heq, H1⟩
      exact ⟨by rw [decide_eq_true heq]; rfl, H1.keeps⟩
  · iterate 2 refine len_sl Try.underlying32 ?_
    refine cond_yes (bne_iff_ne.2 (by omega)) ?_
    refine ⟨congrArg Value.bool ?_, H.keeps⟩
    exact (decide_eq_false fun h => hlen (by rw [h])).symm
end Go.Proofs.Ytjebpngdinbckaa
end

section
/- Coverings: the same rows; right ones. -/
namespace Go.Proofs.Ytjebpngdinbckaa
open Go.Dk
attribute [local irreducible] IntKind.wrap

theorem agg89 : aggT Try.prog 89 = some false := by kernel_rfl
theorem aggrow : aggT Try.prog 32 = some false := by kernel_rfl
theorem size32 : sizeT Try.prog 32 = some 1 := by kernel_rfl
theorem ent85 : enters Try.prog 85 = true := by kernel_rfl
theorem c85 (R T : Mat) (v1 v2 : Value) (w : World) (hl : R.length ≤ 1000000000) (hlr : ∀ r ∈ R, r.length ≤ 1000000000) (hlt : ∀ r ∈ T, r.length ≤ 1000000000) (h1 : MatAt w v1 R) (h2 : MatAt w v2 T) :
    Fun Try.prog 85 [v1, v2] w fun v w' => v = .bool (decide (R = T)) ∧ Same w w' := by
  refine fun_of_W (N := 27) Try.func85 ent85 rfl rfl rfl (by simp) ?_
  have H := Hp.start0 w
  obtain ⟨A, ca, va, rfl, ha, hra⟩ := h1.openM
  obtain ⟨B, cb, vb, rfl, hb, hrb⟩ := h2.openM
  refine cut_rule (γ := Unit) _ rfl (fun _ => []) (fun _ w' => Hp.cl H w') ⟨(), trivial, H⟩ ?_
  rintro ⟨⟩ u w0 H1
  replace H : Hp _ _ _ _ _ := H1
  clear H1
  by_cases hlen : R.length = T.length
  · refine len_sl Try.underlying89 ?_
    refine len_sl Try.underlying89 ?_
    refine cond_no (by rw [hlen]; exact bne_self_eq_false _) ?_
    refine cut_rule (γ := Unit) _ rfl (fun _ => []) (fun _ w' => R = T ∧ Hp.cl H w') ?_ ?_
    · refine loop_rule (γ := Nat) _ rfl (fun i => [(5, .int .i64 (i : Int))]) (fun i w' => (i ≤ R.length ∧ R.take i = T.take i) ∧ Hp.cl H w') (fun i => R.length - i) 0 ⟨rfl, trivial⟩ ⟨⟨Nat.zero_le _, rfl⟩, H⟩ ?_
      rintro i u w1 ⟨⟨hi, heq⟩, H1⟩
      replace H : Hp _ _ _ _ _ := H1
      refine len_sl Try.underlying89 ?_
      refine cond_dec (fun h7 => ?_) (fun h7 => ?_)
      · obtain ⟨x, hx⟩ : ∃ x, R[i]? = some x := ⟨_, List.getElem?_eq_getElem (by omega)⟩
        obtain ⟨y, hy⟩ : ∃ y, T[i]? = some y := ⟨_, List.getElem?_eq_getElem (by omega)⟩
        obtain ⟨g0, o0, rfl⟩ := ha.A (by omega)
        obtain ⟨g1, o1, rfl⟩ := hb.A (by omega)
        obtain ⟨Bx, cx, hget, hsx⟩ := hra i x hx
        obtain ⟨By, cy, hget', hsy⟩ := hrb i y hy
        have hxl := hlr x (List.mem_of_getElem? hx)
        have hyl := hlt y (List.mem_of_getElem? hy)
        have hta : R.take (i + 1) = R.take i ++ [x] := by rw [List.take_add_one, hx]; rfl
        have htb : T.take (i + 1) = T.take i ++ [y] := by rw [List.take_add_one, hy]; rfl
        refine H.draw fol (by kernel_rfl) ?_
        clear H
        intro w3 H
        refine quiet _ (fun w H => idxAddr_sl Try.underlying89 (s := 1) size32 i rfl (by omega) (o' := o0 + i) (by omega) ⟨rfl, rfl⟩) ?_
        refine quiet _ (fun w H => H.loadSl (i := i) ha aggrow _ rfl hget ⟨rfl, rfl⟩) ?_
        refine quiet _ (fun w H => idxAddr_sl Try.underlying89 (s := 1) size32 i rfl (by omega) (o' := o1 + i) (by omega) ⟨rfl, rfl⟩) ?_
        refine quiet _ (fun w H => H.loadSl (i := i) hb aggrow _ rfl hget' ⟨rfl, rfl⟩) ?_
        refine call_fn (c91 x y Bx By cx cy _ hxl hyl (hsx.same H.keeps) (hsy.same H.keeps)) ?_
        rintro _ w4 ⟨rfl, hk4⟩
        replace H := H.same hk4
        refine ⟨.inl H, ?_⟩
        refine cond_split (fun h5 => ?_) (fun h5 => ?_)
        · refine ⟨congrArg Value.bool ?_, H.keeps⟩
          have h8' : x ≠ y := by simpa using h5
          symm
          rw [decide_eq_false_iff_not]
          rintro rfl
          rw [hx] at hy
          injection hy with hy
          exact h8' hy
        · have h8' : x = y := by simpa using h5
          exact ⟨i + 1, by show R.length - (i + 1) < R.length - i; omega, ⟨up (by omega), trivial⟩, ⟨by show i + 1 ≤ R.length; omega, by rw [hta, htb, heq, h8']⟩, H⟩
      · have : i = R.length := by omega
        subst this
        rw [List.take_length, hlen, List.take_length] at heq
        exact ⟨(), trivial, heq, H⟩
    · rintro ⟨⟩ u w1 ⟨heq, H1⟩
      exact ⟨by rw [decide_eq_true heq]; rfl, H1.keeps⟩
  · iterate 2 refine len_sl Try.underlying89 ?_
    refine cond_yes (bne_iff_ne.2 (by omega)) ?_
    refine ⟨congrArg Value.bool ?_, H.keeps⟩
    exact (decide_eq_false fun h => hlen (by rw [h])).symm
end Go.Proofs.Ytjebpngdinbckaa
end

section
/- Coverings: right ones, great ones. -/
namespace Go.Proofs.Ytjebpngdinbckaa
open Go.Dk
attribute [local irreducible] IntKind.wrap

theorem size91 : sizeT Try.prog 91 = some 2 := by kernel_rfl
theorem agg91 : aggT Try.prog 91 = some true := by kernel_rfl
theorem fa91_0 (g : Nat) (w : World) : (Instr.fieldAt 91 (.pointer (some ⟨g, 0, none⟩)) 0).run Try.prog w = .ok (.pointer (some ⟨g, 0, none⟩)) w := by kernel_rfl
theorem fa91_1 (g : Nat) (w : World) : (Instr.fieldAt 91 (.pointer (some ⟨g, 0, none⟩)) 1).run Try.prog w = .ok (.pointer (some ⟨g, 1, none⟩)) w := by kernel_rfl
/-- A covering as a value. -/
def mc (cols : Int) (v : Value) : Array Value := #[.int .i64 cols, v]
def mv (cols : Int) (v : Value) : Value := .agg (mc cols v)
def greatM (R : Mat) : Bool := R.any (fun r => decide (100 < r.length)) || decide (100 < R.length)
theorem upm {i : Nat} (hi : i + 1 < 9223372036854775808) : Value.int .i64 (IntKind.i64.wrap ((i : Int) + 1)) = Value.int .i64 ((i + 1 : Nat) : Int) := by rw [wrap_i64_in (by omega) (by omega)]; rfl
theorem ent170 : enters Try.prog 170 = true := by kernel_rfl
theorem any_snocM {R : Mat} {i : Nat} {x : List Int} (p : List Int → Bool) (hx : R[i]? = some x) : (R.take (i + 1)).any p = ((R.take i).any p || p x) := by
  rw [List.take_add_one, hx]; simp
theorem c170 (cols : Int) (R : Mat) (v1 : Value) (w : World) (hl : R.length ≤ 9223372036854775807) (h1 : MatAt w v1 R) :
    Fun Try.prog 170 [mv cols v1] w fun v w' => v = .bool (greatM R) ∧ Same w w' := by
  refine fun_of_W (N := 22) Try.func170 ent170 rfl rfl rfl (by simp) ?_
  have H := Hp.start0 w
  obtain ⟨A, ca, va, rfl, ha, hra⟩ := h1.openM
  refine H.box 91 (mv _ _) (cs := mc _ _) rfl ?_
  clear H
  intro g1 w1 H
  refine cut_rule (γ := Unit) _ rfl (fun _ => []) (fun _ w' => R.any (fun r => decide (100 < r.length)) = false ∧ Hp.cl H w') ?_ ?_
  · refine loop_rule (γ := Nat) _ rfl (fun i => [(3, .int .i64 (i : Int))]) (fun i w' => (i ≤ R.length ∧ (R.take i).any (fun r => decide (100 < r.length)) = false) ∧ Hp.cl H w') (fun i => R.length - i) 0 ⟨rfl, trivial⟩ ⟨⟨Nat.zero_le _, by simp⟩, H⟩ ?_
    rintro i u w2 ⟨⟨hi, hno⟩, H1⟩
    replace H : Hp _ _ _ _ _ := H1
    refine fieldAddr_by (fa91_1 _) ?_
    refine H.load 0 rfl agg89 rfl ?_
    refine len_sl Try.underlying89 ?_
    refine cond_dec (fun h7 => ?_) (fun h7 => ?_)
    · obtain ⟨x, hx⟩ : ∃ x, R[i]? = some x := ⟨_, List.getElem?_eq_getElem (by omega)⟩
      obtain ⟨g0, o0, rfl⟩ := ha.A (by omega)
      obtain ⟨Bx, cx, hget, hsx⟩ := hra i x hx
      have hsn := any_snocM (fun r => decide (100 < r.length)) hx
      refine fieldAddr_by (fa91_1 _) ?_
      refine H.load 0 rfl agg89 rfl ?_
      refine idxAddr_sl Try.underlying89 (s := 1) size32 i rfl (by omega) (o' := o0 + i) (by omega) ?_
      refine H.loadSl (i := i) ha aggrow _ rfl hget ?_
      refine len_sl Try.underlying32 ?_
      refine cond_dec (fun h9 => ?_) (fun h9 => ?_)
      · refine ⟨congrArg Value.bool ?_, H.keeps⟩
        unfold greatM
        rw [List.any_eq_true.2 ⟨x, List.mem_of_getElem? hx, decide_eq_true (by omega)⟩]; rfl
      · exact ⟨i + 1, by show R.length - (i + 1) < R.length - i; omega, ⟨upm (by omega), trivial⟩, ⟨by show i + 1 ≤ R.length; omega, by rw [hsn, hno, Bool.false_or]; exact decide_eq_false (by omega)⟩, H⟩
    · have : i = R.length := by omega
      subst this
      rw [List.take_length] at hno
      exact ⟨(), trivial, hno, H⟩
  · rintro ⟨⟩ u w2 ⟨hno, H1⟩
    replace H : Hp _ _ _ _ _ := H1
    clear H1
    refine fieldAddr_by (fa91_1 _) ?_
    refine H.load 0 rfl agg89 rfl ?_
    refine len_sl Try.underlying89 ?_
    exact ⟨by unfold greatM; rw [hno, Bool.false_or]; exact congrArg Value.bool (decide_eq_decide.2 (by omega)), H.keeps⟩
end Go.Proofs.Ytjebpngdinbckaa
end

section
/- More arguments of laws, opened: coverings. -/
namespace Go.Proofs.Ytjebpngdinbckaa
open Go.Dk Go.ChangeShapes Go.WideShapes Go.ChangeAt Go.RowKit Go.ChangeMaps
section
variable {H : Type} {enc : TypeId × Value → H} {w : World} {base b : Nat} {spare : Nat → Bool} {held : Bool}
theorem one_slice {P : Program} {t e : TypeId} {fuel : Nat} {r : List Value} {x : DataW H × List MemPlace} (ht : P.underlying t = some (.slice e)) (h : DataW.trod enc P w base spare held fuel t r = some x) : ∃ v, r = [v] := by
  rcases DataW.trod_slice ht h with ⟨h0, _⟩ | ⟨a, len, cap, elems, rest, n, _, hcs, _⟩
  · exact ⟨_, h0⟩
  · exact ⟨_, hcs⟩
/-- A covering's rows, as they are handed in. -/
structure MatArg (w : World) (v : Value) (R : Mat) : Prop where
  mat : MatAt w v R
  len : R.length ≤ 9223372036854775807
  rows : ∀ r ∈ R, r.length ≤ 9223372036854775807 ∧ ∀ k ∈ r, okI k
theorem flat_heads (l : List (Value × List Int)) : flat (fun p : Value × List Int => [p.1]) l = l.map (·.1) := by
  induction l with
  | nil => rfl
  | cons p l ih =>
    have : flat (fun p : Value × List Int => [p.1]) (p :: l) = p.1 :: flat (fun p : Value × List Int => [p.1]) l := rfl
    rw [this, ih]; rfl
set_option maxRecDepth 100000 in
theorem cells89 : Try.prog.cellsOf 89 = 1 := by kernel_rfl
set_option maxRecDepth 100000 in
theorem mat_at {fuel : Nat} {v : Value} {x : DataW H × List MemPlace} (h : DataW.trod enc Try.prog w base spare held fuel 89 [v] = some x) : ∃ R, MatArg w v R := by
  obtain ⟨A, c, l, hv, hl, hok, hs⟩ := arg_list Try.underlying89 cells32 (by decide) (fun p : Value × List Int => [p.1]) (fun p => IntsAt w p.1 p.2) (fun _ => rfl) (fun fuel r y hy => by
    obtain ⟨u, rfl⟩ := one_slice Try.underlying32 hy
    obtain ⟨ks, hk⟩ := ints_at hy
    exact ⟨(u, ks), hk, rfl⟩) h
  rw [flat_heads] at hs
  have e : (l.map (·.2)).length = l.length := by simp
  refine ⟨l.map (·.2), ⟨A, c, l.map (·.1), by rw [e]; exact hv, by rw [e]; exact hs, fun i u ks hu hks => ?_⟩, by rw [e]; exact hl, fun r hr => ?_⟩
  · rw [List.getElem?_map] at hu hks
    cases hp : l[i]? with
    | none => rw [hp] at hu; cases hu
    | some p =>
      rw [hp] at hu hks
      simp only [Option.map_some, Option.some.injEq] at hu hks
      subst hu; subst hks
      obtain ⟨B, d, h1, _, _, h2⟩ := hok p (List.mem_of_getElem? hp)
      exact ⟨B, d, h1, h2⟩
  · obtain ⟨p, hp, rfl⟩ := List.mem_map.1 hr
    obtain ⟨B, d, _, h1, h2, _⟩ := hok p hp
    exact ⟨h1, h2⟩
set_option maxRecDepth 100000 in
theorem arg_mat {v : Value} {d : DataW H} {ps : List MemPlace} (hval : Value.okWide Try.prog w .any b 91 v) (h : DataW.Trod enc Try.prog w base spare held 91 v d ps) : ∃ cols u R, okI cols ∧ MatArg w u R ∧ v = mv cols u := by
  unfold Value.okWide at hval
  rw [Try.underlying91] at hval
  obtain ⟨cs, rfl, hsz, _⟩ := hval
  obtain ⟨fuel, hf⟩ := h
  obtain ⟨y0, y1, n, _, hl, h0, h1⟩ := trod_struct2 Try.underlying91 hf
  have h2 : Try.prog.cellsOf 91 = 2 := by kernel_rfl
  rw [h2] at hl
  rw [cells3] at h0
  rw [cells89] at h1
  obtain ⟨l, rfl⟩ : ∃ l : List Value, cs = l.toArray := ⟨cs.toList, by simp⟩
  have hl' : l.length = 2 := hl
  match l, hl', h0, h1 with
  | [c0, c1], _, h0, h1 =>
    obtain ⟨m, hm, he⟩ := int_at h0
    obtain ⟨R, hR⟩ := mat_at h1
    have he' : [c0] = [Value.int .i64 m] := he
    injection he' with he' _
    subst he'
    exact ⟨m, c1, R, hm, hR, rfl⟩
end
end Go.Proofs.Ytjebpngdinbckaa
end

section
/- Coverings: right ones. -/
namespace Go.Proofs.Ytjebpngdinbckaa
open Go.Dk
attribute [local irreducible] IntKind.wrap

def rowB (cols : Int) : Int → List Int → Bool
  | _, [] => true
  | c, k :: r => decide (c < k) && decide (k < cols) && rowB cols k r
def rightB (cols : Int) (R : Mat) : Bool := R.all (rowB cols (-1)) && (decide (0 ≤ cols) && decide (cols ≤ 4000))
theorem rowB_iff {cols : Int} : ∀ {c : Int} {r : List Int}, rowB cols c r = true ↔ Rise (c :: r) ∧ ∀ k ∈ r, k < cols
  | c, [] => by simp [rowB, Rise]
  | c, k :: r => by
    unfold rowB
    rw [Bool.and_eq_true, Bool.and_eq_true, decide_eq_true_eq, decide_eq_true_eq, rowB_iff]
    unfold Rise
    constructor
    · rintro ⟨⟨h1, h2⟩, h3, h4⟩
      refine ⟨List.pairwise_cons.2 ⟨fun x hx => ?_, h3⟩, fun x hx => ?_⟩
      · rcases List.mem_cons.1 hx with rfl | hx
        · exact h1
        · have := (List.pairwise_cons.1 h3).1 x hx; omega
      · rcases List.mem_cons.1 hx with rfl | hx
        · exact h2
        · exact h4 x hx
    · rintro ⟨h1, h2⟩
      obtain ⟨h3, h4⟩ := List.pairwise_cons.1 h1
      exact ⟨⟨h3 k (.head _), h2 k (.head _)⟩, h4, fun x hx => h2 x (.tail _ hx)⟩
theorem rightB_iff {cols : Int} {R : Mat} : rightB cols R = true ↔ RightM cols R := by
  unfold rightB
  rw [Bool.and_eq_true, Bool.and_eq_true, decide_eq_true_eq, decide_eq_true_eq, List.all_eq_true]
  constructor
  · rintro ⟨h1, h2, h3⟩
    refine ⟨fun r hr => ?_, fun r hr k hk => ?_, h2, h3⟩
    · exact (List.pairwise_cons.1 (rowB_iff.1 (h1 r hr)).1).2
    · have := rowB_iff.1 (h1 r hr)
      have h5 := (List.pairwise_cons.1 this.1).1 k hk
      exact ⟨by omega, this.2 k hk⟩
  · rintro ⟨h1, h2, h3, h4⟩
    refine ⟨fun r hr => rowB_iff.2 ⟨List.pairwise_cons.2 ⟨fun k hk => ?_, h1 r hr⟩, fun k hk => (h2 r hr k hk).2⟩, h3, h4⟩
    have := (h2 r hr k hk).1; omega
end Go.Proofs.Ytjebpngdinbckaa
end

section
/- Coverings: Right. -/
namespace Go.Proofs.Ytjebpngdinbckaa
open Go.Dk
attribute [local irreducible] IntKind.wrap

theorem ent171 : enters Try.prog 171 = true := by kernel_rfl
theorem row_step {cols c k : Int} {r : List Int} {i : Nat} (hk : r[i]? = some k) : rowB cols c (r.drop i) = (decide (c < k) && decide (k < cols) && rowB cols k (r.drop (i + 1))) := by
  have hi := (List.getElem?_eq_some_iff.1 hk).1
  have e : r[i] = k := by rw [List.getElem?_eq_getElem hi] at hk; injection hk
  rw [List.drop_eq_getElem_cons hi, e]; rfl
theorem all_snocM {R : Mat} {i : Nat} {x : List Int} (p : List Int → Bool) (hx : R[i]? = some x) : (R.take (i + 1)).all p = ((R.take i).all p && p x) := by
  rw [List.take_add_one, hx]; simp
theorem right_no {cols : Int} {R : Mat} {i : Nat} {x : List Int} (hx : R[i]? = some x) (h : rowB cols (-1) x = false) : rightB cols R = false := by
  have : R.all (rowB cols (-1)) = false := by
    rw [Bool.eq_false_iff]
    intro hh
    rw [List.all_eq_true.1 hh x (List.mem_of_getElem? hx)] at h
    cases h
  unfold rightB
  rw [this, Bool.false_and]
theorem c171 (cols : Int) (R : Mat) (v1 : Value) (w : World) (hl : R.length ≤ 1000000000) (hlr : ∀ r ∈ R, r.length ≤ 1000000000) (h1 : MatAt w v1 R) :
    Fun Try.prog 171 [mv cols v1] w fun v w' => v = .bool (rightB cols R) ∧ Same w w' := by
  refine fun_of_W (N := 41) Try.func171 ent171 rfl rfl rfl (by simp) ?_
  have H := Hp.start0 w
  obtain ⟨A, ca, va, rfl, ha, hra⟩ := h1.openM
  refine H.box 91 (mv _ _) (cs := mc _ _) rfl ?_
  clear H
  intro g1 w1 H
  refine cut_rule (γ := Unit) _ rfl (fun _ => []) (fun _ w' => R.all (rowB cols (-1)) = true ∧ Hp.cl H w') ?_ ?_
  · refine fieldAddr_by (fa91_1 _) ?_
    refine H.load 0 rfl agg89 rfl ?_
    refine len_sl Try.underlying89 ?_
    refine loop_rule (γ := Nat) _ rfl (fun i => [(11, .int .i64 (i : Int))]) (fun i w' => (i ≤ R.length ∧ (R.take i).all (rowB cols (-1)) = true) ∧ Hp.cl H w') (fun i => R.length - i) 0 ⟨rfl, trivial⟩ ⟨⟨Nat.zero_le _, by simp⟩, H⟩ ?_
    rintro i u w2 ⟨⟨hi, hyes⟩, H1⟩
    replace H : Hp _ _ _ _ _ := H1
    refine cond_dec (fun h7 => ?_) (fun h7 => ?_)
    · obtain ⟨x, hx⟩ : ∃ x, R[i]? = some x := ⟨_, List.getElem?_eq_getElem (by omega)⟩
      obtain ⟨g0, o0, rfl⟩ := ha.A (by omega)
      obtain ⟨Bx, cx, hget, hsx⟩ := hra i x hx
      have hxl := hlr x (List.mem_of_getElem? hx)
      have hsn := all_snocM (rowB cols (-1)) hx
      rw [hyes, Bool.true_and] at hsn
      refine cut_rule (γ := Unit) _ rfl (fun _ => []) (fun _ w' => rowB cols (-1) x = true ∧ Hp.cl H w') ?_ ?_
      · refine idxAddr_sl Try.underlying89 (s := 1) size32 i rfl (by omega) (o' := o0 + i) (by omega) ?_
        refine H.loadSl (i := i) ha aggrow _ rfl hget ?_
        refine len_sl Try.underlying32 ?_
        refine loop_rule (γ := Nat × Int) _ rfl (fun (j, c) => [(17, .int .i64 (j : Int)), (5, .int .i64 c)]) (fun (j, c) w' => (j ≤ x.length ∧ rowB cols (-1) x = rowB cols c (x.drop j)) ∧ Hp.cl H w') (fun (j, _) => x.length - j) (0, -1) ⟨rfl, rfl, trivial⟩ ⟨⟨Nat.zero_le _, rfl⟩, H⟩ ?_
        rintro ⟨j, c⟩ u w3 ⟨⟨hj, hrow⟩, H1⟩
        replace H : Hp _ _ _ _ _ := H1
        refine cond_dec (fun h8 => ?_) (fun h8 => ?_)
        · obtain ⟨k, hk⟩ : ∃ k, x[j]? = some k := ⟨_, List.getElem?_eq_getElem (by omega)⟩
          obtain ⟨g2, o2, rfl⟩ := hsx.A (by omega)
          have hgk : (intsI x)[j]? = some (.int .i64 k) := by rw [intsI, List.getElem?_map, hk]; rfl
          rw [row_step hk] at hrow
          refine idxAddr_sl Try.underlying32 (s := 1) size3 j rfl (by omega) (o' := o2 + j) (by omega) ?_
          refine H.loadSl (i := j) hsx agg3 _ rfl hgk ?_
          refine cond_dec (fun h6 => ?_) (fun h6 => ?_)
          · refine cond_yes (decide_eq_true (by assumption)) ?_
            iterate 3 refine cond_yes (decide_eq_true (by assumption)) ?_
            refine cond_yes rfl ?_
            refine ⟨congrArg Value.bool ?_, H.keeps⟩
            rw [decide_eq_false (show ¬ c < k by omega), Bool.false_and, Bool.false_and] at hrow
            exact (right_no hx hrow).symm
          · refine cond_no (decide_eq_false (by assumption)) ?_
            refine fieldAddr_by (fa91_0 _) ?_
            refine cond_no (decide_eq_false (by assumption)) ?_
            refine H.load 0 rfl agg3 rfl ?_
            iterate 2 refine cond_no (decide_eq_false (by assumption)) ?_
            refine cond_dec (fun h22 => ?_) (fun h22 => ?_)
            · refine ⟨congrArg Value.bool ?_, H.keeps⟩
              rw [decide_eq_false (show ¬ k < cols by omega), Bool.and_false, Bool.false_and] at hrow
              exact (right_no hx hrow).symm
            · rw [decide_eq_true (show c < k by omega), decide_eq_true (show k < cols by omega), Bool.true_and, Bool.true_and] at hrow
              exact ⟨(j + 1, k), by show x.length - (j + 1) < x.length - j; omega, ⟨up (by omega), rfl, trivial⟩, ⟨by show j + 1 ≤ x.length; omega, hrow⟩, H⟩
        · have : j = x.length := by omega
          subst this
          rw [List.drop_length] at hrow
          exact ⟨(), trivial, hrow, H⟩
      · rintro ⟨⟩ u w3 ⟨hrow, H1⟩
        exact ⟨i + 1, by show R.length - (i + 1) < R.length - i; omega, ⟨up (by omega), trivial⟩, ⟨by show i + 1 ≤ R.length; omega, by rw [hsn]; exact hrow⟩, H1⟩
    · have : i = R.length := by omega
      subst this
      rw [List.take_length] at hyes
      exact ⟨(), trivial, hyes, H⟩
  · rintro ⟨⟩ u w2 ⟨hyes, H1⟩
    replace H : Hp _ _ _ _ _ := H1
    clear H1
    refine fieldAddr_by (fa91_0 _) ?_
    refine H.load 0 rfl agg3 rfl ?_
    refine cond_dec (fun h5 => ?_) (fun h5 => ?_)
    · refine fieldAddr_by (fa91_0 _) ?_
      refine cond_yes (decide_eq_true (by assumption)) ?_
      refine H.load 0 rfl agg3 rfl ?_
      iterate 2 refine cond_yes (decide_eq_true (by assumption)) ?_
      refine ⟨congrArg Value.bool ?_, H.keeps⟩
      unfold rightB
      rw [hyes, Bool.true_and, decide_eq_true (show 0 ≤ cols from h5), Bool.true_and]
    · refine cond_no (decide_eq_false (by assumption)) ?_
      iterate 2 refine cond_no (decide_eq_false (by assumption)) ?_
      refine ⟨congrArg Value.bool ?_, H.keeps⟩
      unfold rightB
      rw [hyes, Bool.true_and, decide_eq_false (show ¬ 0 ≤ cols from h5), Bool.false_and]
end Go.Proofs.Ytjebpngdinbckaa
end

section
/- Coverings: Right of the reference. -/
namespace Go.Proofs.Ytjebpngdinbckaa
open Go.Dk
attribute [local irreducible] IntKind.wrap

def greatB (cols : Int) (R : Mat) : Bool := (greatM R || decide (30 < R.length)) || (decide (30 < cols) && decide (cols ≤ 4000))
theorem ent79 : enters Try.prog 79 = true := by kernel_rfl
theorem c79 (cols : Int) (R : Mat) (v1 : Value) (w : World) (hl : R.length ≤ 9223372036854775807) (h1 : MatAt w v1 R) :
    Fun Try.prog 79 [mv cols v1] w fun v w' => v = .bool (greatB cols R) ∧ Same w w' := by
  refine fun_of_W (N := 21) Try.func79 ent79 rfl rfl rfl (by simp) ?_
  have H := Hp.start0 w
  obtain ⟨A, ca, va, rfl, ha, hra⟩ := h1.openM
  refine H.box 91 (mv _ _) (cs := mc _ _) rfl ?_
  clear H
  intro g1 w1 H
  refine H.loadAll 0 rfl agg91 size91 ?_
  refine call_fn (c170 cols R _ _ hl (h1.same H.keeps)) ?_ 
  rintro _ w3 ⟨rfl, hk⟩ 
  replace H := H.same hk 
  clear hk
  refine cond_split (fun h4 => ?_) (fun h4 => ?_)
  · refine cond_yes (by assumption) ?_
    iterate 3 refine cond_yes (by assumption) ?_
    iterate 6 refine cond_yes rfl ?_
    refine ⟨congrArg Value.bool ?_, H.keeps⟩
    unfold greatB; rw [h4]; rfl
  · refine fieldAddr_by (fa91_1 _) ?_
    refine cond_no (by assumption) ?_
    refine H.load 0 rfl agg89 rfl ?_
    refine cond_no (by assumption) ?_
    refine len_sl Try.underlying89 ?_
    iterate 2 refine cond_no (by assumption) ?_
    refine cond_dec (fun h24 => ?_) (fun h24 => ?_)
    · refine cond_yes (decide_eq_true (by assumption)) ?_
      iterate 4 refine cond_yes (decide_eq_true (by assumption)) ?_
      refine ⟨congrArg Value.bool ?_, H.keeps⟩
      unfold greatB; rw [decide_eq_true (show 30 < R.length by omega), Bool.or_true, Bool.true_or]
    · refine fieldAddr_by (fa91_0 _) ?_
      refine cond_no (decide_eq_false (by assumption)) ?_
      refine H.load 0 rfl agg3 rfl ?_
      iterate 2 refine cond_no (decide_eq_false (by assumption)) ?_
      refine cond_dec (fun h37 => ?_) (fun h37 => ?_)
      · refine fieldAddr_by (fa91_0 _) ?_
        refine cond_yes (decide_eq_true (by assumption)) ?_
        refine H.load 0 rfl agg3 rfl ?_
        refine cond_yes (decide_eq_true (by assumption)) ?_
        refine cond_no (decide_eq_false (by assumption)) ?_
        refine cond_yes (decide_eq_true (by assumption)) ?_
        refine cond_no (decide_eq_false (by assumption)) ?_
        refine ⟨congrArg Value.bool ?_, H.keeps⟩
        unfold greatB; rw [h4, decide_eq_false (show ¬ 30 < R.length by omega), decide_eq_true (show 30 < cols by omega), Bool.true_and]; rfl
      · refine cond_no (decide_eq_false (by assumption)) ?_
        iterate 4 refine cond_no (decide_eq_false (by assumption)) ?_
        refine ⟨congrArg Value.bool ?_, H.keeps⟩
        unfold greatB; rw [h4, decide_eq_false (show ¬ 30 < R.length by omega), decide_eq_false (show ¬ 30 < cols by omega)]; rfl
end Go.Proofs.Ytjebpngdinbckaa
end

section
/- Coverings: Right of the reference. -/
namespace Go.Proofs.Ytjebpngdinbckaa
open Go.Dk
attribute [local irreducible] IntKind.wrap

/-- The column ahead of a place. -/
def prevC (x : List Int) : Nat → Int
  | 0 => -1
  | j + 1 => x.getD j 0
theorem prev_succ {x : List Int} {j : Nat} {k : Int} (h : x[j]? = some k) : prevC x (j + 1) = k := by
  show x.getD j 0 = k
  rw [List.getD_eq_getElem?_getD, h]; rfl
theorem prev_get {x : List Int} {j : Nat} (h : 0 < j) (hj : j ≤ x.length) : x[j - 1]? = some (prevC x j) := by
  obtain ⟨n, rfl⟩ : ∃ n, j = n + 1 := ⟨j - 1, by omega⟩
  show x[n]? = _
  have hn : n < x.length := by omega
  rw [List.getElem?_eq_getElem hn, prev_succ (List.getElem?_eq_getElem hn)]
theorem ent84 : enters Try.prog 84 = true := by kernel_rfl
theorem c84 (cols : Int) (R : Mat) (v1 : Value) (w : World) (hl : R.length ≤ 1000000000) (hlr : ∀ r ∈ R, r.length ≤ 1000000000) (h1 : MatAt w v1 R) :
    Fun Try.prog 84 [.int .i64 cols, v1] w fun v w' => v = .bool (rightB cols R) ∧ Same w w' := by
  refine fun_of_W (N := 69) Try.func84 ent84 rfl rfl rfl (by simp) ?_
  have H := Hp.start0 w
  obtain ⟨A, ca, va, rfl, ha, hra⟩ := h1.openM
  by_cases hc : 0 ≤ cols ∧ cols ≤ 4000
  · refine cut_rule (γ := Unit) _ rfl (fun _ => []) (fun _ w' => Hp.cl H w') ⟨(), trivial, H⟩ ?_
    rintro ⟨⟩ u w0 H1
    replace H : Hp _ _ _ _ _ := H1
    clear H1
    repeat refine cond_no (decide_eq_false (by omega)) ?_
    refine cut_rule (γ := Unit) _ rfl (fun _ => []) (fun _ w' => R.all (rowB cols (-1)) = true ∧ Hp.cl H w') ?_ ?_
    · refine loop_rule (γ := Nat) _ rfl (fun i => [(5, .int .i64 (i : Int))]) (fun i w' => (i ≤ R.length ∧ (R.take i).all (rowB cols (-1)) = true) ∧ Hp.cl H w') (fun i => R.length - i) 0 ⟨rfl, trivial⟩ ⟨⟨Nat.zero_le _, by simp⟩, H⟩ ?_
      rintro i u w2 ⟨⟨hi, hyes⟩, H1⟩
      replace H : Hp _ _ _ _ _ := H1
      refine len_sl Try.underlying89 ?_
      refine cond_dec (fun h7 => ?_) (fun h7 => ?_)
      · obtain ⟨x, hx⟩ : ∃ x, R[i]? = some x := ⟨_, List.getElem?_eq_getElem (by omega)⟩
        obtain ⟨g0, o0, rfl⟩ := ha.A (by omega)
        obtain ⟨Bx, cx, hget, hsx⟩ := hra i x hx
        have hxl := hlr x (List.mem_of_getElem? hx)
        refine loop_rule (γ := Nat) _ rfl (fun j => [(6, .int .i64 (j : Int))]) (fun j w' => (j ≤ x.length ∧ rowB cols (-1) x = rowB cols (prevC x j) (x.drop j) ∧ -1 ≤ prevC x j) ∧ Hp.cl H w') (fun j => x.length - j) 0 ⟨rfl, trivial⟩ ⟨⟨Nat.zero_le _, rfl, Int.le_refl _⟩, H⟩ ?_
        rintro j u w3 ⟨⟨hj, hrow, hpv⟩, H1⟩
        replace H : Hp _ _ _ _ _ := H1
        refine idxAddr_sl Try.underlying89 (s := 1) size32 i rfl (by omega) (o' := o0 + i) (by omega) ?_
        refine H.loadSl (i := i) ha aggrow _ rfl hget ?_
        refine len_sl Try.underlying32 ?_
        refine cond_dec (fun h8 => ?_) (fun h8 => ?_)
        · obtain ⟨k, hk⟩ : ∃ k, x[j]? = some k := ⟨_, List.getElem?_eq_getElem (by omega)⟩
          obtain ⟨g2, o2, rfl⟩ := hsx.A (by omega)
          have hgk : (intsI x)[j]? = some (.int .i64 k) := by rw [intsI, List.getElem?_map, hk]; rfl
          rw [row_step hk] at hrow
          refine H.draw fol (by kernel_rfl) ?_
          clear H
          intro w4 H
          refine quiet _ (fun w H => idxAddr_sl Try.underlying89 (s := 1) size32 i rfl (by omega) (o' := o0 + i) (by omega) ⟨rfl, rfl⟩) ?_
          refine quiet _ (fun w H => H.loadSl (i := i) ha aggrow _ rfl hget ⟨rfl, rfl⟩) ?_
          refine quiet _ (fun w H => idxAddr_sl Try.underlying32 (s := 1) (by kernel_rfl) _ rfl (by first | omega | decide | (simp only [IntKind.wrap_i64]; omega) | (rw [bls, List.length_map]; omega) | (rw [bytesV_length]; omega) | (rw [ints_length]; omega) | (simp; done) | (simp; omega)) (o' := _) (by rw [Nat.mul_one]) ⟨rfl, rfl⟩) ?_
          refine quiet _ (fun w H => H.loadSl (i := j) hsx agg3 _ rfl hgk ⟨rfl, rfl⟩) ?_
          refine cond_dec (fun h6 => ?_) (fun h6 => ?_)
          · refine cond_yes (decide_eq_true (by assumption)) ?_
            iterate 8 refine cond_yes (decide_eq_true (by assumption)) ?_
            iterate 6 refine cond_yes rfl ?_
            refine ⟨congrArg Value.bool ?_, H.keeps⟩
            rw [decide_eq_false (show ¬ prevC x j < k by omega), Bool.false_and, Bool.false_and] at hrow
            exact (right_no hx hrow).symm
          · refine cond_no (decide_eq_false (by assumption)) ?_
            refine cond_no (decide_eq_false (by assumption)) ?_
            refine quiet _ (fun w H => idxAddr_sl Try.underlying89 (s := 1) size32 i rfl (by omega) (o' := o0 + i) (by omega) ⟨rfl, rfl⟩) ?_
            refine cond_no (decide_eq_false (by assumption)) ?_
            refine quiet _ (fun w H => H.loadSl (i := i) ha aggrow _ rfl hget ⟨rfl, rfl⟩) ?_
            iterate 2 refine cond_no (decide_eq_false (by assumption)) ?_
            refine quiet _ (fun w H => idxAddr_sl Try.underlying32 (s := 1) size3 j rfl (by omega) (o' := o2 + j) (by omega) ⟨rfl, rfl⟩) ?_
            refine cond_no (decide_eq_false (by assumption)) ?_
            refine quiet _ (fun w H => H.loadSl (i := j) hsx agg3 _ rfl hgk ⟨rfl, rfl⟩) ?_
            iterate 3 refine cond_no (decide_eq_false (by assumption)) ?_
            refine cond_dec (fun h39 => ?_) (fun h39 => ?_)
            · refine cond_yes (decide_eq_true (by assumption)) ?_
              iterate 3 refine cond_yes (decide_eq_true (by assumption)) ?_
              refine cond_yes rfl ?_
              refine ⟨congrArg Value.bool ?_, H.keeps⟩
              rw [decide_eq_false (show ¬ k < cols by omega), Bool.and_false, Bool.false_and] at hrow
              exact (right_no hx hrow).symm
            · refine cond_no (decide_eq_false (by assumption)) ?_
              refine cond_no (decide_eq_false (by assumption)) ?_
              refine cond_dec (fun h49 => ?_) (fun h49 => ?_)
              · refine cond_yes (decide_eq_true (by assumption)) ?_
                refine cond_yes (decide_eq_true (by assumption)) ?_
                refine quiet _ (fun w H => idxAddr_sl Try.underlying89 (s := 1) size32 i rfl (by omega) (o' := o0 + i) (by omega) ⟨rfl, rfl⟩) ?_
                refine cond_yes (decide_eq_true (by assumption)) ?_
                refine quiet _ (fun w H => H.loadSl (i := i) ha aggrow _ rfl hget ⟨rfl, rfl⟩) ?_
                iterate 2 refine cond_yes (decide_eq_true (by assumption)) ?_
                refine quiet _ (fun w H => idxAddr_sl Try.underlying32 (s := 1) size3 j rfl (by omega) (o' := o2 + j) (by omega) ⟨rfl, rfl⟩) ?_
                refine cond_yes (decide_eq_true (by assumption)) ?_
                refine quiet _ (fun w H => H.loadSl (i := j) hsx agg3 _ rfl hgk ⟨rfl, rfl⟩) ?_
                iterate 3 refine cond_yes (decide_eq_true (by assumption)) ?_
                refine quiet _ (fun w H => idxAddr_sl Try.underlying89 (s := 1) size32 i rfl (by omega) (o' := o0 + i) (by omega) ⟨rfl, rfl⟩) ?_
                refine cond_yes (decide_eq_true (by assumption)) ?_
                refine quiet _ (fun w H => H.loadSl (i := i) ha aggrow _ rfl hget ⟨rfl, rfl⟩) ?_
                iterate 3 refine cond_yes (decide_eq_true (by assumption)) ?_
                have hgp : (intsI x)[j - 1]? = some (.int .i64 (prevC x j)) := by rw [intsI, List.getElem?_map, prev_get (by omega) (by omega)]; rfl
                have hwp : IntKind.i64.wrap ((j : Int) - 1) = ((j - 1 : Nat) : Int) := by rw [IntKind.wrap_i64]; omega
                refine quiet _ (fun w H => idxAddr_sl Try.underlying32 (s := 1) size3 (j - 1) hwp (by omega) (o' := o2 + (j - 1)) (by omega) ⟨rfl, rfl⟩) ?_
                refine cond_yes (decide_eq_true (by assumption)) ?_
                refine quiet _ (fun w H => H.loadSl (i := j - 1) hsx agg3 _ rfl hgp ⟨rfl, rfl⟩) ?_
                refine cond_yes (decide_eq_true (by assumption)) ?_
                refine cond_no (decide_eq_false (by assumption)) ?_
                refine cond_yes (decide_eq_true (by assumption)) ?_
                refine cond_no (decide_eq_false (by assumption)) ?_
                refine cond_dec (fun h15 => ?_) (fun h15 => ?_)
                · refine ⟨congrArg Value.bool ?_, H.keeps⟩
                  rw [decide_eq_false (show ¬ prevC x j < k by omega), Bool.false_and, Bool.false_and] at hrow
                  exact (right_no hx hrow).symm
                · rw [decide_eq_true (show prevC x j < k by omega), decide_eq_true (show k < cols by omega), Bool.true_and, Bool.true_and] at hrow
                  exact ⟨j + 1, by show x.length - (j + 1) < x.length - j; omega, ⟨up (by omega), trivial⟩, ⟨by show j + 1 ≤ x.length; omega, by rw [prev_succ hk]; exact hrow, by rw [prev_succ hk]; omega⟩, H⟩
              · refine cond_no (decide_eq_false (by assumption)) ?_
                iterate 17 refine cond_no (decide_eq_false (by assumption)) ?_
                refine cond_no rfl ?_
                have hj0 : j = 0 := by omega
                subst hj0
                have hp0 : prevC x 0 = -1 := rfl
                rw [hp0, decide_eq_true (show (-1 : Int) < k by omega), decide_eq_true (show k < cols by omega), Bool.true_and, Bool.true_and] at hrow
                exact ⟨0 + 1, by show x.length - (0 + 1) < x.length - 0; omega, ⟨up (by omega), trivial⟩, ⟨by show 0 + 1 ≤ x.length; omega, by rw [prev_succ hk]; exact hrow, by rw [prev_succ hk]; omega⟩, H⟩
        · have : j = x.length := by omega
          subst this
          rw [List.drop_length] at hrow
          exact ⟨i + 1, by show R.length - (i + 1) < R.length - i; omega, ⟨up (by omega), trivial⟩, ⟨by show i + 1 ≤ R.length; omega, by rw [all_snocM _ hx, hyes, hrow]; rfl⟩, H⟩
      · have : i = R.length := by omega
        subst this
        rw [List.take_length] at hyes
        exact ⟨(), trivial, hyes, H⟩
    · rintro ⟨⟩ u w2 ⟨hyes, H1⟩
      replace H : Hp _ _ _ _ _ := H1
      clear H1
      refine ⟨congrArg Value.bool ?_, H.keeps⟩
      unfold rightB; rw [hyes, decide_eq_true hc.1, decide_eq_true hc.2]; rfl
  · refine cond_dec (fun h2 => ?_) (fun h2 => ?_)
    · refine cond_yes (decide_eq_true (by assumption)) ?_
      refine cond_yes (decide_eq_true (by assumption)) ?_
      refine cond_yes rfl ?_
      refine ⟨congrArg Value.bool ?_, H.keeps⟩
      unfold rightB; rw [decide_eq_false (show ¬ 0 ≤ cols by omega), Bool.false_and, Bool.and_false]
    · refine cond_no (decide_eq_false (by assumption)) ?_
      refine cond_no (decide_eq_false (by assumption)) ?_
      refine cond_yes (decide_eq_true (by omega)) ?_
      refine ⟨congrArg Value.bool ?_, H.keeps⟩
      unfold rightB; rw [decide_eq_false (show ¬ cols ≤ 4000 by omega), Bool.and_false, Bool.and_false]
end Go.Proofs.Ytjebpngdinbckaa
end

section
/- Coverings: reduced to the end; the least number of columns, by trying all. Plain Lean. -/
namespace Go.Dk

/-! ### To the end -/
def endS (cols : Nat) (s : Mat × List Int) : Mat × List Int := runS cols s (massM s.1)
theorem run_mass {cols : Nat} {s : Mat × List Int} : ∀ n, stepS cols (runS cols s n) ≠ none → massM (runS cols s (n + 1)).1 + (n + 1) ≤ massM s.1 := by
  have one : ∀ t : Mat × List Int, stepS cols t ≠ none → massM ((stepS cols t).getD t).1 + 1 ≤ massM t.1 := fun t h => by
    cases hs : stepS cols t with
    | none => exact absurd hs h
    | some t' => have := step_mass hs; show massM t'.1 + 1 ≤ _; omega
  intro n
  induction n with
  | zero => intro h; exact one s h
  | succ n ih =>
    intro h
    have hn : stepS cols (runS cols s n) ≠ none := fun h0 => by
      have := run_stuck h0 (n + 1) (by omega)
      rw [this] at h
      exact h h0
    have h1 := ih hn
    have h2 := one _ h
    show massM ((stepS cols (runS cols s (n + 1))).getD (runS cols s (n + 1))).1 + (n + 1 + 1) ≤ massM s.1
    omega
theorem end_stuck (cols : Nat) (s : Mat × List Int) : stepS cols (endS cols s) = none := by
  cases h : stepS cols (endS cols s) with
  | none => rfl
  | some t =>
    have := run_mass (cols := cols) (s := s) (massM s.1) (by show stepS cols (endS cols s) ≠ none; rw [h]; simp)
    omega
theorem end_eq {cols : Nat} {s : Mat × List Int} {n : Nat} (h : stepS cols (runS cols s n) = none) : runS cols s n = endS cols s := run_unique h (end_stuck cols s)

/-! ### What a step keeps -/
theorem right_sub {cols : Int} {R R' : Mat} (h : RightM cols R) (hs : ∀ r' ∈ R', Rise r' ∧ ∃ r ∈ R, ∀ k ∈ r', k ∈ r) : RightM cols R' :=
  ⟨fun r hr => (hs r hr).1, fun r hr k hk => by
    obtain ⟨q, hq, hsub⟩ := (hs r hr).2
    exact h.rng q hq k (hsub k hk), h.ge, h.le⟩
theorem getD_mem {R : Mat} {j : Nat} (h : j < R.length) : R.getD j [] = R[j] := by
  rw [List.getD_eq_getElem?_getD, List.getElem?_eq_getElem h]; rfl
theorem mem_erase_ne {R : Mat} {i n : Nat} (hn : n < R.length) (hni : n ≠ i) : R[n] ∈ R.eraseIdx i := by
  rw [List.mem_eraseIdx_iff_getElem?]
  exact ⟨n, hni, List.getElem?_eq_getElem hn⟩
structure StepInv (cols : Nat) (R R' : Mat) (T T' : List Int) : Prop where
  right : RightM cols R'
  sub : ∀ r' ∈ R', ∃ r ∈ R, ∀ k ∈ r', k ∈ r
  what : (T' = T ∧ (∀ b, IsBest cols R' b → IsBest cols R b) ∧ ∀ S, SolvesM R' S → SolvesM R S) ∨
    ∃ k, T' = T ++ [k] ∧ [k] ∈ R ∧ (∀ r ∈ R', k ∉ r) ∧ (∀ b, IsBest cols R' b → IsBest cols R (if b < 0 then -1 else b + 1)) ∧ ∀ S, SolvesM R' S → SolvesM R (k :: S)
theorem step_inv {cols : Nat} {R R' : Mat} {T T' : List Int} (hR : RightM cols R) (h : stepS cols (R, T) = some (R', T')) : StepInv cols R R' T T' := by
  unfold stepS at h
  simp only at h
  split at h
  · rename_i Q k ht
    injection h with h; injection h with h1 h2
    subst h1; subst h2
    obtain ⟨hk, hQ⟩ := take_some ht
    have hsub : ∀ r' ∈ Q, r' ∈ R ∧ k ∉ r' := fun r' hr' => by
      rw [hQ] at hr'
      have := List.mem_filter.1 hr'
      exact ⟨this.1, by simpa using this.2⟩
    refine ⟨right_sub hR fun r' hr' => ⟨hR.rise _ (hsub r' hr').1, r', (hsub r' hr').1, fun _ h => h⟩, fun r' hr' => ⟨r', (hsub r' hr').1, fun _ h => h⟩, .inr ⟨k, rfl, hk, fun r hr => (hsub r hr).2, fun b hb => best_take (hR.rng _ hk k (.head _)) ht hb, fun S hS r hr => ?_⟩⟩
    by_cases hkr : k ∈ r
    · exact ⟨k, hkr, .head _⟩
    · obtain ⟨x, hx, hxS⟩ := hS r (by rw [hQ]; exact List.mem_filter.2 ⟨hr, by simpa using hkr⟩)
      exact ⟨x, hx, .tail _ hxS⟩
  · split at h
    · rename_i Q hr
      injection h with h; injection h with h1 h2
      subst h1; subst h2
      obtain ⟨i, j, hi, hj, hne, hsub, hQ⟩ := rows_some hr
      have hmem : ∀ r' ∈ Q, r' ∈ R := fun r' hr' => by rw [hQ] at hr'; exact List.mem_of_mem_eraseIdx hr'
      refine ⟨right_sub hR fun r' hr' => ⟨hR.rise _ (hmem r' hr'), r', hmem r' hr', fun _ h => h⟩, fun r' hr' => ⟨r', hmem r' hr', fun _ h => h⟩, .inl ⟨rfl, fun b hb => best_rows hr hb, fun S hS r hr' => ?_⟩⟩
      obtain ⟨n, hn, rfl⟩ := List.getElem_of_mem hr'
      by_cases hni : n = i
      · subst hni
        obtain ⟨x, hx, hxS⟩ := hS _ (by rw [hQ]; exact mem_erase_ne hj hne)
        refine ⟨x, ?_, hxS⟩
        have := hsub x (by rw [getD_mem hj]; exact hx)
        rwa [getD_mem hi] at this
      · exact hS _ (by rw [hQ]; exact mem_erase_ne hn hni)
    · cases hc : colsS cols R with
      | none => rw [hc] at h; cases h
      | some Q =>
        rw [hc] at h
        injection h with h; injection h with h1 h2
        subst h1; subst h2
        obtain ⟨c, d, _, _, _, _, _, hQ⟩ := cols_some hc
        have hmem : ∀ r' ∈ Q, ∃ r ∈ R, r' = r.filter fun k => k != (c : Int) := fun r' hr' => by
          rw [hQ] at hr'
          obtain ⟨r, hr, he⟩ := List.mem_map.1 hr'
          exact ⟨r, hr, he.symm⟩
        have hm2 : ∀ r' ∈ Q, ∃ r ∈ R, ∀ k ∈ r', k ∈ r := fun r' hr' => by
          obtain ⟨r, hr, rfl⟩ := hmem r' hr'
          exact ⟨r, hr, fun k hk => (List.mem_filter.1 hk).1⟩
        refine ⟨right_sub hR fun r' hr' => ⟨?_, hm2 r' hr'⟩, hm2, .inl ⟨rfl, fun b hb => best_cols hc hb, fun S hS r hr => ?_⟩⟩
        · obtain ⟨r, hr, rfl⟩ := hmem r' hr'
          exact (hR.rise r hr).sublist List.filter_sublist
        · obtain ⟨x, hx, hxS⟩ := hS _ (by rw [hQ]; exact List.mem_map.2 ⟨r, hr, rfl⟩)
          exact ⟨x, (List.mem_filter.1 hx).1, hxS⟩
structure RunInv (cols : Nat) (R : Mat) (s : Mat × List Int) : Prop where
  right : RightM cols s.1
  sub : ∀ r' ∈ s.1, ∃ r ∈ R, ∀ k ∈ r', k ∈ r
  nodup : s.2.Nodup
  rng : ∀ k ∈ s.2, 0 ≤ k ∧ k < cols
  gone : ∀ k ∈ s.2, ∀ r ∈ s.1, k ∉ r
  best : ∀ b, IsBest cols s.1 b → IsBest cols R (if b < 0 then -1 else b + s.2.length)
  solves : ∀ S, SolvesM s.1 S → SolvesM R (s.2 ++ S)
theorem run_step {cols : Nat} {R : Mat} {s s' : Mat × List Int} (h : RunInv cols R s) (hs : stepS cols s = some s') : RunInv cols R s' := by
  obtain ⟨R1, T1⟩ := s
  obtain ⟨R2, T2⟩ := s'
  have hi := step_inv h.right hs
  have hsub : ∀ r' ∈ R2, ∃ r ∈ R, ∀ k ∈ r', k ∈ r := fun r' hr' => by
    obtain ⟨q, hq, h1⟩ := hi.sub r' hr'
    obtain ⟨r, hr, h2⟩ := h.sub q hq
    exact ⟨r, hr, fun k hk => h2 k (h1 k hk)⟩
  have hgone : ∀ k ∈ T1, ∀ r ∈ R2, k ∉ r := fun k hk r hr hkr => by
    obtain ⟨q, hq, h1⟩ := hi.sub r hr
    exact h.gone k hk q hq (h1 k hkr)
  rcases hi.what with ⟨rfl, hb, hS⟩ | ⟨k, rfl, hk, hno, hb, hS⟩
  · exact ⟨hi.right, hsub, h.nodup, h.rng, hgone, fun b hb' => h.best b (hb b hb'), fun S hS' => h.solves S (hS S hS')⟩
  · have hkT : k ∉ T1 := fun hkT => h.gone k hkT _ hk (.head _)
    refine ⟨hi.right, hsub, ?_, fun x hx => ?_, fun x hx => ?_, fun b hb' => ?_, fun S hS' => ?_⟩
    · exact List.nodup_append.2 ⟨h.nodup, List.nodup_cons.2 ⟨by simp, .nil⟩, fun a ha b hb e => by
        obtain rfl : b = k := by simpa using hb
        subst e
        exact hkT ha⟩
    · rcases List.mem_append.1 hx with hx | hx
      · exact h.rng x hx
      · obtain rfl : x = k := by simpa using hx
        exact h.right.rng _ hk x (.head _)
    · rcases List.mem_append.1 hx with hx | hx
      · exact hgone x hx
      · obtain rfl : x = k := by simpa using hx
        exact hno
    · have h1 := h.best _ (hb b hb')
      by_cases hlt : b < 0
      · rw [if_pos hlt] at h1 ⊢
        rwa [if_pos (by decide)] at h1
      · rw [if_neg hlt] at h1 ⊢
        rw [if_neg (by omega)] at h1
        have e : b + 1 + ((T1.length : Nat) : Int) = b + (((T1 ++ [k]).length : Nat) : Int) := by simp; omega
        show IsBest cols R (b + (((T1 ++ [k]).length : Nat) : Int))
        rw [← e]; exact h1
    · have := h.solves _ (hS S hS')
      show SolvesM R ((T1 ++ [k]) ++ S)
      rw [List.append_assoc]
      exact this
theorem run_inv {cols : Nat} {R : Mat} (hR : RightM cols R) : ∀ n, RunInv cols R (runS cols (R, []) n)
  | 0 => ⟨hR, fun r hr => ⟨r, hr, fun _ h => h⟩, .nil, by simp [runS], by simp [runS], fun b hb => by
      by_cases hlt : b < 0
      · rw [if_pos hlt]
        rcases hb with ⟨rfl, hn⟩ | ⟨S, _, _, rfl, _⟩
        · exact .inl ⟨rfl, hn⟩
        · omega
      · rw [if_neg hlt]
        simpa [runS] using hb, fun S hS => hS⟩
  | n + 1 => by
    show RunInv cols R ((stepS cols (runS cols (R, []) n)).getD (runS cols (R, []) n))
    cases hs : stepS cols (runS cols (R, []) n) with
    | none => exact run_inv hR n
    | some s' => exact run_step (run_inv hR n) hs
theorem end_inv {cols : Nat} {R : Mat} (hR : RightM cols R) : RunInv cols R (endS cols (R, [])) := run_inv hR _
/-- What is left behind can't be reduced. -/
theorem end_end {cols : Nat} {R : Mat} : endS cols ((endS cols (R, [])).1, []) = ((endS cols (R, [])).1, []) := by
  have h := end_stuck cols (R, [])
  have key : ∀ (s : Mat × List Int) (T : List Int), stepS cols s = none → stepS cols (s.1, T) = none := fun s T h => by
    unfold stepS at h ⊢
    split at h
    · cases h
    · rename_i ht
      split at h
      · cases h
      · rename_i hr
        simp only [ht, hr]
        cases hc : colsS cols s.1 with
        | none => rfl
        | some Q => rw [hc] at h; cases h
  exact (end_eq (n := 0) (key _ [] h)).symm

/-! ### Columns, rising -/
def risen (cols : Nat) (T : List Int) : List Int := ((List.range cols).map fun n : Nat => (n : Int)).filter fun c => decide (c ∈ T)
theorem risen_succ (n : Nat) (T : List Int) : risen (n + 1) T = risen n T ++ (if (n : Int) ∈ T then [(n : Int)] else []) := by
  unfold risen
  rw [List.range_succ, List.map_append, List.filter_append]
  congr 1
  by_cases h : (n : Int) ∈ T <;> simp [h]
theorem mem_risen {cols : Nat} {T : List Int} {c : Int} : c ∈ risen cols T ↔ (0 ≤ c ∧ c < cols) ∧ c ∈ T := by
  unfold risen
  rw [List.mem_filter, List.mem_map, decide_eq_true_eq]
  constructor
  · rintro ⟨⟨n, hn, rfl⟩, h⟩
    exact ⟨⟨by omega, by have := List.mem_range.1 hn; omega⟩, h⟩
  · rintro ⟨⟨h0, h1⟩, h⟩
    exact ⟨⟨c.toNat, List.mem_range.2 (by omega), by omega⟩, h⟩
theorem range_rise (n : Nat) : Rise ((List.range n).map fun n : Nat => (n : Int)) := by
  unfold Rise
  rw [List.pairwise_map]
  exact List.pairwise_lt_range.imp fun h => by omega
theorem risen_rise (cols : Nat) (T : List Int) : Rise (risen cols T) := (range_rise cols).sublist List.filter_sublist
theorem risen_len_le (cols : Nat) (T : List Int) : (risen cols T).length ≤ cols := by
  have := List.length_filter_le (fun c => decide (c ∈ T)) ((List.range cols).map fun n : Nat => (n : Int))
  simpa [risen] using this
theorem risen_le (cols : Nat) (T : List Int) : (risen cols T).length ≤ T.length := len_sub (risen_rise cols T).nodup fun k hk => (mem_risen.1 hk).2
theorem risen_len {cols : Nat} {T : List Int} (hn : T.Nodup) (hr : ∀ k ∈ T, 0 ≤ k ∧ k < cols) : (risen cols T).length = T.length :=
  Nat.le_antisymm (risen_le cols T) (len_sub hn fun k hk => mem_risen.2 ⟨hr k hk, hk⟩)
theorem risen_solves {cols : Nat} {R : Mat} {T : List Int} (hR : RightM cols R) (h : SolvesM R T) : SolvesM R (risen cols T) := fun r hr => by
  obtain ⟨k, hk, hkT⟩ := h r hr
  exact ⟨k, hk, mem_risen.2 ⟨hR.rng r hr k hk, hkT⟩⟩
theorem risen_col (cols : Nat) (T : List Int) : ColSet cols (risen cols T) := ⟨(risen_rise cols T).nodup, fun _ hk => (mem_risen.1 hk).1⟩

/-! ### Columns that let others go -/
theorem where_rise (R : Mat) (c : Int) : Rise (whereM R c) := by
  unfold whereM Rise
  rw [List.pairwise_map]
  exact (List.pairwise_lt_range.sublist List.filter_sublist).imp fun h => by omega
def progC (R : Mat) (c d : Int) : Bool := (d != c) && withinB (whereM R c) (whereM R d) && !(decide ((whereM R d).length = (whereM R c).length) && decide (c < d))
theorem progC_eq (R : Mat) (c d : Int) : progC R c d = domC R c d := by
  unfold progC domC
  cases h1 : (d != c) with
  | false => rfl
  | true =>
    cases h2 : withinB (whereM R c) (whereM R d) with
    | false => rfl
    | true =>
      have hne : d ≠ c := by simpa using h1
      have hle := len_sub (where_rise R c).nodup (withinB_iff.1 h2)
      simp only [Bool.true_and]
      rw [Bool.eq_iff_iff]
      simp only [Bool.not_eq_true', Bool.and_eq_false_imp, decide_eq_true_eq, decide_eq_false_iff_not, Bool.or_eq_true]
      constructor
      · intro h
        by_cases he : (whereM R d).length = (whereM R c).length
        · have := h he
          right; omega
        · left; omega
      · rintro (h | h) he <;> omega
theorem cols_any {cols : Nat} {R : Mat} (hR : RightM cols R) {c : Int} {i0 : Nat} {l : List Int} (hw : whereM R c = (i0 : Int) :: l) :
    ((R.getD i0 []).any fun d => progC R c d) = (List.range cols).any fun d => domC R c d := by
  obtain ⟨n, hn, hni, _⟩ := where_mem.1 (show (i0 : Int) ∈ whereM R c by rw [hw]; exact .head _)
  obtain rfl : n = i0 := by omega
  rw [Bool.eq_iff_iff, List.any_eq_true, List.any_eq_true]
  constructor
  · rintro ⟨d, hd, h⟩
    rw [getD_mem hn] at hd
    have hr := hR.rng _ (List.getElem_mem hn) d hd
    refine ⟨d.toNat, List.mem_range.2 (by omega), ?_⟩
    rw [progC_eq] at h
    rwa [show ((d.toNat : Nat) : Int) = d by omega]
  · rintro ⟨d, hd, h⟩
    refine ⟨d, ?_, by rw [progC_eq]; exact h⟩
    have h' := h
    unfold domC at h'
    simp only [Bool.and_eq_true] at h'
    have := withinB_iff.1 h'.1.2 (n : Int) (by rw [hw]; exact .head _)
    obtain ⟨m, _, hmn, hm⟩ := where_mem.1 this
    obtain rfl : m = n := by omega
    exact hm

/-! ### The least number, by trying all -/
def solvesB (R : Mat) (S : List Int) : Bool := R.all fun r => r.any fun k => decide (k ∈ S)
theorem solvesB_iff {R : Mat} {S : List Int} : solvesB R S = true ↔ SolvesM R S := by
  unfold solvesB SolvesM
  simp only [List.all_eq_true, List.any_eq_true, decide_eq_true_eq]
/-- The columns that a choice has. -/
def choiceI (n cols : Nat) : List Int := (bitsBelow n cols).map fun k : Nat => (k : Int)
theorem choice_succ (n k : Nat) : choiceI n (k + 1) = choiceI n k ++ (if n.testBit k then [(k : Int)] else []) := by
  unfold choiceI
  rw [bitsBelow_succ, List.map_append]
  cases n.testBit k <;> rfl
theorem mem_choice {n cols : Nat} {c : Int} : c ∈ choiceI n cols ↔ ∃ k : Nat, c = k ∧ k < cols ∧ n.testBit k = true := by
  unfold choiceI
  rw [List.mem_map]
  constructor
  · rintro ⟨k, hk, rfl⟩; exact ⟨k, rfl, mem_bitsBelow.1 hk⟩
  · rintro ⟨k, rfl, hk⟩; exact ⟨k, mem_bitsBelow.2 hk, rfl⟩
theorem choice_col (n cols : Nat) : ColSet cols (choiceI n cols) := by
  refine ⟨?_, fun k hk => ?_⟩
  · have : Rise (choiceI n cols) := by
      unfold choiceI bitsBelow Rise
      rw [List.pairwise_map]
      exact (List.pairwise_lt_range.sublist List.filter_sublist).imp fun h => by omega
    exact this.nodup
  · obtain ⟨m, rfl, hm, _⟩ := mem_choice.1 hk
    omega
/-- What is best of the choices below n. -/
def BestInv (cols : Nat) (R : Mat) (n : Nat) (b : Int) : Prop :=
  (b = -1 ∧ ∀ ch, ch < n → ¬ SolvesM R (choiceI ch cols)) ∨ ∃ ch, ch < n ∧ SolvesM R (choiceI ch cols) ∧ b = ((choiceI ch cols).length : Int) ∧ ∀ ch', ch' < n → SolvesM R (choiceI ch' cols) → (choiceI ch cols).length ≤ (choiceI ch' cols).length
theorem bestInv_zero (cols : Nat) (R : Mat) : BestInv cols R 0 (-1) := .inl ⟨rfl, fun ch h => by omega⟩
theorem bestInv_ge {cols : Nat} {R : Mat} {n : Nat} {b : Int} (h : BestInv cols R n b) : -1 ≤ b := by
  rcases h with ⟨rfl, _⟩ | ⟨ch, _, _, rfl, _⟩ <;> omega
theorem bestInv_yes {cols : Nat} {R : Mat} {n : Nat} {b : Int} (h : BestInv cols R n b) (hb : b < 0 ∨ ((choiceI n cols).length : Int) < b) (hs : SolvesM R (choiceI n cols)) : BestInv cols R (n + 1) ((choiceI n cols).length : Int) := by
  refine .inr ⟨n, by omega, hs, rfl, fun ch' hc' hs' => ?_⟩
  by_cases he : ch' = n
  · subst he; exact Nat.le_refl _
  · rcases h with ⟨rfl, hn⟩ | ⟨ch, _, _, rfl, hm⟩
    · exact absurd hs' (hn ch' (by omega))
    · have := hm ch' (by omega) hs'
      rcases hb with hb | hb <;> omega
theorem bestInv_no {cols : Nat} {R : Mat} {n : Nat} {b : Int} (h : BestInv cols R n b) (hb : (0 ≤ b ∧ b ≤ ((choiceI n cols).length : Int)) ∨ ¬ SolvesM R (choiceI n cols)) : BestInv cols R (n + 1) b := by
  rcases h with ⟨rfl, hn⟩ | ⟨ch, hc, hs, rfl, hm⟩
  · refine .inl ⟨rfl, fun ch hc => ?_⟩
    by_cases he : ch = n
    · subst he
      rcases hb with hb | hb
      · omega
      · exact hb
    · exact hn ch (by omega)
  · refine .inr ⟨ch, by omega, hs, rfl, fun ch' hc' hs' => ?_⟩
    by_cases he : ch' = n
    · subst he
      rcases hb with hb | hb
      · omega
      · exact absurd hs' hb
    · exact hm ch' (by omega) hs'
/-- Each set of columns is a choice. -/
theorem choice_of {cols : Nat} {S : List Int} (h : ColSet cols S) : ∃ ch, ch < 2 ^ cols ∧ (∀ k, k ∈ choiceI ch cols ↔ k ∈ S) ∧ (choiceI ch cols).length = S.length := by
  have hm : ∀ k, k ∈ choiceI (mkSet (fun c => decide ((c : Int) ∈ S)) cols) cols ↔ k ∈ S := fun k => by
    rw [mem_choice]
    constructor
    · rintro ⟨n, rfl, hn, ht⟩
      rw [testBit_mkSet] at ht
      simp only [Bool.and_eq_true, decide_eq_true_eq] at ht
      exact ht.2
    · intro hk
      have hr := h.rng k hk
      refine ⟨k.toNat, by omega, by omega, ?_⟩
      rw [testBit_mkSet]
      simp only [Bool.and_eq_true, decide_eq_true_eq]
      exact ⟨by omega, by rw [show ((k.toNat : Nat) : Int) = k by omega]; exact hk⟩
  exact ⟨_, mkSet_lt _ _, hm, Nat.le_antisymm (len_sub (choice_col _ _).nodup fun k hk => (hm k).1 hk) (len_sub h.nodup fun k hk => (hm k).2 hk)⟩
theorem solves_same {R : Mat} {S T : List Int} (h : ∀ k, k ∈ S ↔ k ∈ T) (hS : SolvesM R S) : SolvesM R T := fun r hr => by
  obtain ⟨k, hk, hkS⟩ := hS r hr
  exact ⟨k, hk, (h k).1 hkS⟩
theorem bestInv_end {cols : Nat} {R : Mat} {b : Int} (h : BestInv cols R (2 ^ cols) b) : IsBest cols R b := by
  rcases h with ⟨rfl, hn⟩ | ⟨ch, hc, hs, rfl, hm⟩
  · refine .inl ⟨rfl, fun S hS hs => ?_⟩
    obtain ⟨ch, hc, h1, _⟩ := choice_of hS
    exact hn ch hc (solves_same (fun k => (h1 k).symm) hs)
  · refine .inr ⟨_, choice_col ch cols, hs, rfl, fun S hS hs' => ?_⟩
    obtain ⟨ch', hc', h1, h2⟩ := choice_of hS
    have := hm ch' hc' (solves_same (fun k => (h1 k).symm) hs')
    omega
end Go.Dk
end

section
/- The search for the fewest columns: bounds, branches, what is kept. Plain Lean. -/
namespace Go.Dk

/-! ### Rows that are bare -/
def bareB (R : Mat) : Bool := R.any fun r => r.isEmpty
theorem bareB_iff {R : Mat} : bareB R = true ↔ [] ∈ R := by
  unfold bareB
  rw [List.any_eq_true]
  constructor
  · rintro ⟨r, hr, h⟩
    obtain rfl : r = [] := by simpa using h
    exact hr
  · intro h; exact ⟨[], h, rfl⟩
theorem bare_none {R : Mat} (h : [] ∈ R) (S : List Int) : ¬ SolvesM R S := fun hs => by
  obtain ⟨k, hk, _⟩ := hs _ h
  cases hk
theorem step_bare {cols : Nat} {s s' : Mat × List Int} (h : [] ∉ s.1) (hs : stepS cols s = some s') : [] ∉ s'.1 := by
  unfold stepS at hs
  split at hs
  · rename_i R k ht
    injection hs with hs; subst hs
    obtain ⟨_, hR⟩ := take_some ht
    intro hm
    rw [hR] at hm
    exact h (List.mem_filter.1 hm).1
  · split at hs
    · rename_i R hr
      injection hs with hs; subst hs
      obtain ⟨i, j, _, _, _, _, hR⟩ := rows_some hr
      intro hm
      rw [hR] at hm
      exact h (List.mem_of_mem_eraseIdx hm)
    · cases hc : colsS cols s.1 with
      | none => rw [hc] at hs; cases hs
      | some R =>
        rw [hc] at hs
        injection hs with hs; subst hs
        obtain ⟨c, d, _, _, hne, _, hsub, hR⟩ := cols_some hc
        intro hm
        rw [hR] at hm
        obtain ⟨r, hr, he⟩ := List.mem_map.1 hm
        rw [List.filter_eq_nil_iff] at he
        cases r with
        | nil => exact h hr
        | cons k r =>
          have hk := he k (.head _)
          obtain rfl : k = (c : Int) := by simpa using hk
          have hd := he _ (hsub _ hr (.head _))
          have : (d : Int) = c := by simpa using hd
          omega
theorem run_bare {cols : Nat} {s : Mat × List Int} (h : [] ∉ s.1) : ∀ n, [] ∉ (runS cols s n).1
  | 0 => h
  | n + 1 => by
    show [] ∉ ((stepS cols (runS cols s n)).getD (runS cols s n)).1
    cases hs : stepS cols (runS cols s n) with
    | none => exact run_bare h n
    | some s' => exact step_bare (run_bare h n) hs
theorem step_len {cols : Nat} {s s' : Mat × List Int} (hs : stepS cols s = some s') : s'.1.length ≤ s.1.length := by
  unfold stepS at hs
  split at hs
  · rename_i R k ht
    injection hs with hs; subst hs
    obtain ⟨_, hR⟩ := take_some ht
    show R.length ≤ _
    rw [hR]; exact List.length_filter_le _ _
  · split at hs
    · rename_i R hr
      injection hs with hs; subst hs
      obtain ⟨i, j, _, _, _, _, hR⟩ := rows_some hr
      show R.length ≤ _
      rw [hR]; exact List.length_eraseIdx_le _ _
    · cases hc : colsS cols s.1 with
      | none => rw [hc] at hs; cases hs
      | some R =>
        rw [hc] at hs
        injection hs with hs; subst hs
        obtain ⟨c, d, _, _, _, _, _, hR⟩ := cols_some hc
        show R.length ≤ _
        rw [hR]; unfold dropC; rw [List.length_map]; exact Nat.le_refl _
theorem run_len {cols : Nat} {s : Mat × List Int} : ∀ n, (runS cols s n).1.length ≤ s.1.length
  | 0 => Nat.le_refl _
  | n + 1 => by
    show ((stepS cols (runS cols s n)).getD (runS cols s n)).1.length ≤ _
    cases hs : stepS cols (runS cols s n) with
    | none => exact run_len n
    | some s' => exact Nat.le_trans (step_len hs) (run_len n)
theorem row_len {cols : Nat} {R : Mat} (h : RightM cols R) {r : List Int} (hr : r ∈ R) : r.length ≤ cols := by
  have := len_sub (a := r) (b := (List.range cols).map fun n : Nat => (n : Int)) (h.rise r hr).nodup fun k hk => by
    have := h.rng r hr k hk
    exact List.mem_map.2 ⟨k.toNat, List.mem_range.2 (by omega), by omega⟩
  simpa using this

/-! ### The bound -/
def boundS : Mat → List Int → Nat
  | [], _ => 0
  | r :: R, used => if r.any fun k => decide (k ∈ used) then boundS R used else boundS R (used ++ r) + 1
theorem bound_le : ∀ (R : Mat) (used : List Int), boundS R used ≤ R.length
  | [], _ => Nat.le_refl _
  | r :: R, used => by
    unfold boundS
    split
    · have := bound_le R used; simp only [List.length_cons]; omega
    · have := bound_le R (used ++ r); simp only [List.length_cons]; omega
theorem cnt_lt {α : Type} {l : List α} {p q : α → Bool} (h : ∀ x ∈ l, p x = true → q x = true) {x : α} (hx : x ∈ l) (h1 : q x = true) (h2 : p x = false) : l.countP p < l.countP q := by
  induction l with
  | nil => cases hx
  | cons y l ih =>
    have hmono : l.countP p ≤ l.countP q := List.countP_mono_left fun x hx => h x (.tail _ hx)
    rw [List.countP_cons, List.countP_cons]
    rcases List.mem_cons.1 hx with rfl | hx
    · rw [h1, h2]; simp only [Bool.false_eq_true, if_false, if_true]; omega
    · have := ih (fun x hx => h x (.tail _ hx)) hx
      have hy := h y (.head _)
      cases hp : p y with
      | true => rw [hy hp]; simp only [if_true]; omega
      | false => simp only [Bool.false_eq_true, if_false]; split <;> omega
theorem bound_low : ∀ (R : Mat) (used S : List Int), SolvesM R S → boundS R used ≤ S.countP fun k => !decide (k ∈ used)
  | [], _, _, _ => Nat.zero_le _
  | r :: R, used, S, hs => by
    have hs' : SolvesM R S := fun q hq => hs q (.tail _ hq)
    unfold boundS
    split
    · exact bound_low R used S hs'
    · rename_i hfree
      obtain ⟨k, hk, hkS⟩ := hs r (.head _)
      have hku : k ∉ used := fun hku => hfree (List.any_eq_true.2 ⟨k, hk, decide_eq_true hku⟩)
      have h1 := bound_low R (used ++ r) S hs'
      have h2 := cnt_lt (l := S) (p := fun k => !decide (k ∈ used ++ r)) (q := fun k => !decide (k ∈ used)) (fun x _ hx => by
        simp only [Bool.not_eq_true', decide_eq_false_iff_not] at hx ⊢
        exact fun hu => hx (List.mem_append_left _ hu)) hkS (by simpa using hku) (by simp [hk])
      omega
theorem bound_least {R : Mat} {S : List Int} (hs : SolvesM R S) : boundS R [] ≤ S.length :=
  Nat.le_trans (bound_low R [] S hs) List.countP_le_length

/-! ### Branches -/
def withoutM (R : Mat) (c : Int) : Mat := R.filter fun r => !decide (c ∈ r)
theorem without_solves {R : Mat} {c : Int} {S : List Int} (h : SolvesM (withoutM R c) S) : SolvesM R (c :: S) := fun r hr => by
  by_cases hc : c ∈ r
  · exact ⟨c, hc, .head _⟩
  · obtain ⟨k, hk, hkS⟩ := h r (List.mem_filter.2 ⟨hr, by simpa using hc⟩)
    exact ⟨k, hk, .tail _ hkS⟩
theorem drop_solves {R : Mat} {c : Int} {S : List Int} (h : SolvesM (dropC R c) S) : SolvesM R S := fun r hr => by
  obtain ⟨k, hk, hkS⟩ := h _ (List.mem_map.2 ⟨r, hr, rfl⟩)
  exact ⟨k, (List.mem_filter.1 hk).1, hkS⟩
theorem branch {R : Mat} {c : Int} {S : List Int} (h : SolvesM R S) : (c ∈ S ∧ SolvesM (withoutM R c) (S.erase c)) ∨ SolvesM (dropC R c) S := by
  by_cases hc : c ∈ S
  · refine .inl ⟨hc, fun r hr => ?_⟩
    obtain ⟨hr, hcr⟩ := List.mem_filter.1 hr
    obtain ⟨k, hk, hkS⟩ := h r hr
    have hcr' : c ∉ r := by simpa using hcr
    exact ⟨k, hk, (List.mem_erase_of_ne (fun (e : k = c) => hcr' (by rw [← e]; exact hk))).2 hkS⟩
  · refine .inr fun r hr => ?_
    obtain ⟨q, hq, rfl⟩ := List.mem_map.1 hr
    obtain ⟨k, hk, hkS⟩ := h q hq
    exact ⟨k, List.mem_filter.2 ⟨hk, by simpa using fun e : k = c => hc (by rw [← e]; exact hkS)⟩, hkS⟩
theorem without_right {cols : Int} {R : Mat} (h : RightM cols R) (c : Int) : RightM cols (withoutM R c) :=
  right_sub h fun r hr => ⟨h.rise r (List.mem_filter.1 hr).1, r, (List.mem_filter.1 hr).1, fun _ h => h⟩
theorem drop_right {cols : Int} {R : Mat} (h : RightM cols R) (c : Int) : RightM cols (dropC R c) :=
  right_sub h fun r hr => by
    obtain ⟨q, hq, rfl⟩ := List.mem_map.1 hr
    exact ⟨(h.rise q hq).sublist List.filter_sublist, q, hq, fun k hk => (List.mem_filter.1 hk).1⟩

/-! ### How many kinds of columns there are -/
def kinds (cols : Nat) (R : Mat) : Nat := (List.range cols).countP fun c : Nat => R.any fun r => decide ((c : Int) ∈ r)
theorem kinds_le (cols : Nat) (R : Mat) : kinds cols R ≤ cols := by
  have := List.countP_le_length (p := fun c : Nat => R.any fun r => decide ((c : Int) ∈ r)) (l := List.range cols)
  simpa [kinds] using this
theorem kinds_any {R : Mat} {c : Int} : (R.any fun r => decide (c ∈ r)) = true ↔ ∃ r ∈ R, c ∈ r := by
  simp only [List.any_eq_true, decide_eq_true_eq]
theorem kinds_sub {cols : Nat} {R R' : Mat} (h : ∀ r' ∈ R', ∃ r ∈ R, ∀ k ∈ r', k ∈ r) : kinds cols R' ≤ kinds cols R :=
  List.countP_mono_left fun c _ hc => by
    obtain ⟨r', hr', hk⟩ := kinds_any.1 hc
    obtain ⟨r, hr, hs⟩ := h r' hr'
    exact kinds_any.2 ⟨r, hr, hs _ hk⟩
theorem kinds_lt {cols : Nat} {R R' : Mat} (h : ∀ r' ∈ R', ∃ r ∈ R, ∀ k ∈ r', k ∈ r) {c : Int} (h0 : 0 ≤ c) (h1 : c < cols) (h2 : ∃ r ∈ R, c ∈ r) (h3 : ∀ r ∈ R', c ∉ r) : kinds cols R' < kinds cols R :=
  cnt_lt (fun x _ hc => by
    obtain ⟨r', hr', hk⟩ := kinds_any.1 hc
    obtain ⟨r, hr, hs⟩ := h r' hr'
    exact kinds_any.2 ⟨r, hr, hs _ hk⟩) (x := c.toNat) (List.mem_range.2 (by omega)) (kinds_any.2 (by rw [show ((c.toNat : Nat) : Int) = c by omega]; exact h2)) (by
      rw [Bool.eq_false_iff]
      intro hh
      obtain ⟨r, hr, hk⟩ := kinds_any.1 hh
      rw [show ((c.toNat : Nat) : Int) = c by omega] at hk
      exact h3 r hr hk)
theorem without_sub (R : Mat) (c : Int) : ∀ r' ∈ withoutM R c, ∃ r ∈ R, ∀ k ∈ r', k ∈ r := fun r' hr' => ⟨r', (List.mem_filter.1 hr').1, fun _ h => h⟩
theorem drop_sub (R : Mat) (c : Int) : ∀ r' ∈ dropC R c, ∃ r ∈ R, ∀ k ∈ r', k ∈ r := fun r' hr' => by
  obtain ⟨q, hq, rfl⟩ := List.mem_map.1 hr'
  exact ⟨q, hq, fun k hk => (List.mem_filter.1 hk).1⟩
theorem without_gone (R : Mat) (c : Int) : ∀ r ∈ withoutM R c, c ∉ r := fun r hr => by simpa using (List.mem_filter.1 hr).2
theorem drop_gone (R : Mat) (c : Int) : ∀ r ∈ dropC R c, c ∉ r := fun r hr h => by
  obtain ⟨q, hq, rfl⟩ := List.mem_map.1 hr
  simpa using (List.mem_filter.1 h).2

/-! ### The least number is there -/
theorem best_ex (cols : Nat) (R : Mat) : ∃ b, IsBest cols R b := by
  have : ∀ n, ∃ b, BestInv cols R n b := fun n => by
    induction n with
    | zero => exact ⟨-1, bestInv_zero cols R⟩
    | succ n ih =>
      obtain ⟨b, hb⟩ := ih
      by_cases hs : SolvesM R (choiceI n cols)
      · by_cases hlt : b < 0 ∨ ((choiceI n cols).length : Int) < b
        · exact ⟨_, bestInv_yes hb hlt hs⟩
        · exact ⟨b, bestInv_no hb (.inl (by omega))⟩
      · exact ⟨b, bestInv_no hb (.inr hs)⟩
  obtain ⟨b, hb⟩ := this (2 ^ cols)
  exact ⟨b, bestInv_end hb⟩
/-- What solves a covering gives what solves the rest, with as many fewer as were taken. -/
theorem end_down {cols : Nat} {R : Mat} (hR : RightM cols R) {S : List Int} (hS : ColSet cols S) (hs : SolvesM R S) :
    ∃ S', ColSet cols S' ∧ SolvesM (endS cols (R, [])).1 S' ∧ (endS cols (R, [])).2.length + S'.length ≤ S.length := by
  have hi := end_inv hR
  obtain ⟨b, hb⟩ := best_ex cols (endS cols (R, [])).1
  have h1 := hi.best b hb
  rcases hb with ⟨rfl, hn⟩ | ⟨S', hS', hs', rfl, _⟩
  · rw [if_pos (by decide)] at h1
    rcases h1 with ⟨_, h1⟩ | ⟨T, _, _, h1, _⟩
    · exact absurd hs (h1 S hS)
    · omega
  · rw [if_neg (by omega)] at h1
    rcases h1 with ⟨h1, _⟩ | ⟨T, _, _, h1, h2⟩
    · omega
    · have := h2 S hS hs
      exact ⟨S', hS', hs', by omega⟩

/-! ### The search's state -/
abbrev Stk := List (Mat × List Int)
def loadS (cols : Nat) (st : Stk) : Nat := (st.map fun x => 2 ^ kinds cols x.1 - 1).sum
def heftS (cols : Nat) (st : Stk) : Nat := (st.map fun x => 2 ^ (kinds cols x.1 + 1) - 1).sum
theorem load_snoc (cols : Nat) (st : Stk) (x : Mat × List Int) : loadS cols (st ++ [x]) = loadS cols st + (2 ^ kinds cols x.1 - 1) := by simp [loadS]
theorem heft_snoc (cols : Nat) (st : Stk) (x : Mat × List Int) : heftS cols (st ++ [x]) = heftS cols st + (2 ^ (kinds cols x.1 + 1) - 1) := by simp [heftS]
theorem heft_pop (cols : Nat) (st : Stk) (x : Mat × List Int) : heftS cols st < heftS cols (st ++ [x]) := by
  rw [heft_snoc]
  have : 2 ≤ 2 ^ (kinds cols x.1 + 1) := by rw [Nat.pow_succ]; have := Nat.one_le_two_pow (n := kinds cols x.1); omega
  omega
structure FewInv (cols : Nat) (R0 : Mat) (best : List Int) (n : Nat) (st : Stk) : Prop where
  right : ∀ x ∈ st, RightM cols x.1
  rows : ∀ x ∈ st, x.1.length ≤ R0.length
  ok : ∀ x ∈ st, ∀ S, SolvesM x.1 S → SolvesM R0 (x.2 ++ S)
  solved : SolvesM R0 best
  low : ∀ S, ColSet cols S → SolvesM R0 S → best.length ≤ S.length ∨ ∃ x ∈ st, ∃ S', ColSet cols S' ∧ SolvesM x.1 S' ∧ x.2.length + S'.length ≤ S.length
  steps : n + loadS cols st ≤ 2 ^ cols - 1
  len : ∀ x ∈ st, x.2.length + (cols + 1) * kinds cols x.1 ≤ (cols + 1) * cols
  high : ∀ i x, st[i]? = some x → i + kinds cols x.1 ≤ cols
theorem few_start {cols : Nat} {R0 : Mat} (hR : RightM cols R0) {g : List Int} (hg : SolvesM R0 g) : FewInv cols R0 g 0 [(R0, [])] := by
  have hk := kinds_le cols R0
  refine ⟨?_, ?_, ?_, hg, fun S hS hs => .inr ⟨_, .head _, S, hS, hs, by simp⟩, ?_, ?_, ?_⟩
  · intro x hx; obtain rfl := List.mem_singleton.1 hx; exact hR
  · intro x hx; obtain rfl := List.mem_singleton.1 hx; exact Nat.le_refl _
  · intro x hx S hS; obtain rfl := List.mem_singleton.1 hx; exact hS
  · have h := Nat.pow_le_pow_right (show 0 < 2 by decide) hk
    simp only [loadS, List.map_cons, List.map_nil, List.sum_cons, List.sum_nil]
    omega
  · intro x hx
    obtain rfl := List.mem_singleton.1 hx
    have := Nat.mul_le_mul_left (cols + 1) hk
    simpa using this
  · intro i x hx
    obtain ⟨hi, rfl⟩ := List.getElem?_eq_some_iff.1 hx
    have : i = 0 := by simpa using hi
    subst this
    simpa using hk
theorem few_pop {cols : Nat} {R0 : Mat} {best : List Int} {n : Nat} {st : Stk} {x : Mat × List Int} (h : FewInv cols R0 best n (st ++ [x])) {best' : List Int} (hb : SolvesM R0 best')
    (hlow : ∀ S, ColSet cols S → SolvesM R0 S → best'.length ≤ S.length ∨ ∃ x ∈ st, ∃ S', ColSet cols S' ∧ SolvesM x.1 S' ∧ x.2.length + S'.length ≤ S.length) : FewInv cols R0 best' n st := by
  refine ⟨fun y hy => h.right y (by simp [hy]), fun y hy => h.rows y (by simp [hy]), fun y hy => h.ok y (by simp [hy]), hb, hlow, ?_, fun y hy => h.len y (by simp [hy]), fun i y hy => h.high i y ?_⟩
  · have := h.steps
    rw [load_snoc] at this
    omega
  · rw [List.getElem?_append_left (List.getElem?_eq_some_iff.1 hy).1]; exact hy
/-- A place at which the search needs to go on only with what solves the top. -/
theorem few_low {cols : Nat} {R0 : Mat} {best : List Int} {n : Nat} {st : Stk} {x : Mat × List Int} (h : FewInv cols R0 best n (st ++ [x])) {best' : List Int} (hle : best'.length ≤ best.length)
    (ht : ∀ S S', ColSet cols S → ColSet cols S' → SolvesM x.1 S' → x.2.length + S'.length ≤ S.length → best'.length ≤ S.length) :
    ∀ S, ColSet cols S → SolvesM R0 S → best'.length ≤ S.length ∨ ∃ x ∈ st, ∃ S', ColSet cols S' ∧ SolvesM x.1 S' ∧ x.2.length + S'.length ≤ S.length := fun S hS hs => by
  rcases h.low S hS hs with h1 | ⟨y, hy, S', hS', hs', hl⟩
  · left; omega
  · rcases List.mem_append.1 hy with hy | hy
    · exact .inr ⟨y, hy, S', hS', hs', hl⟩
    · obtain rfl : y = x := by simpa using hy
      exact .inl (ht S S' hS hS' hs' hl)
theorem few_bare {cols : Nat} {R0 : Mat} {best : List Int} {n : Nat} {st : Stk} {x : Mat × List Int} (h : FewInv cols R0 best n (st ++ [x])) (hb : [] ∈ x.1) : FewInv cols R0 best n st :=
  few_pop h h.solved (few_low h (Nat.le_refl _) fun _ S' _ _ hs _ => absurd hs (bare_none hb S'))
theorem few_taken {cols : Nat} {R0 : Mat} {best : List Int} {n : Nat} {st : Stk} {x : Mat × List Int} (h : FewInv cols R0 best n (st ++ [x])) :
    ∀ S, SolvesM (endS cols (x.1, [])).1 S → SolvesM R0 ((x.2 ++ risen cols (endS cols (x.1, [])).2) ++ S) := fun S hS => by
  have hR := h.right x (by simp)
  have hi := end_inv hR
  have h1 := hi.solves S hS
  have h2 : SolvesM x.1 (risen cols (endS cols (x.1, [])).2 ++ S) := fun r hr => by
    obtain ⟨k, hk, hkS⟩ := h1 r hr
    refine ⟨k, hk, ?_⟩
    rcases List.mem_append.1 hkS with hk' | hk'
    · exact List.mem_append_left _ (mem_risen.2 ⟨hR.rng r hr k hk, hk'⟩)
    · exact List.mem_append_right _ hk'
  rw [List.append_assoc]
  exact h.ok x (by simp) _ h2
theorem few_tlen {cols : Nat} {R0 : Mat} {best : List Int} {n : Nat} {st : Stk} {x : Mat × List Int} (h : FewInv cols R0 best n (st ++ [x])) :
    (risen cols (endS cols (x.1, [])).2).length = (endS cols (x.1, [])).2.length :=
  risen_len (end_inv (h.right x (by simp))).nodup (end_inv (h.right x (by simp))).rng
theorem few_done {cols : Nat} {R0 : Mat} {best : List Int} {n : Nat} {st : Stk} {x : Mat × List Int} (h : FewInv cols R0 best n (st ++ [x])) (he : (endS cols (x.1, [])).1 = []) :
    FewInv cols R0 (if (x.2 ++ risen cols (endS cols (x.1, [])).2).length < best.length then x.2 ++ risen cols (endS cols (x.1, [])).2 else best) n st := by
  have hs : SolvesM R0 (x.2 ++ risen cols (endS cols (x.1, [])).2) := by
    have := few_taken h [] (by rw [he]; intro r hr; cases hr)
    rwa [List.append_nil] at this
  have hl : ∀ S S', ColSet cols S → ColSet cols S' → SolvesM x.1 S' → x.2.length + S'.length ≤ S.length → (x.2 ++ risen cols (endS cols (x.1, [])).2).length ≤ S.length := fun S S' _ hS' hs' hle => by
    obtain ⟨T, _, _, hT⟩ := end_down (h.right x (by simp)) hS' hs'
    rw [List.length_append, few_tlen h]
    omega
  split
  · rename_i hlt
    exact few_pop h hs (few_low h (by omega) hl)
  · rename_i hge
    exact few_pop h h.solved (few_low h (Nat.le_refl _) fun S S' a b c d => by have := hl S S' a b c d; omega)
theorem few_cut {cols : Nat} {R0 : Mat} {best : List Int} {n : Nat} {st : Stk} {x : Mat × List Int} (h : FewInv cols R0 best n (st ++ [x]))
    (hc : best.length ≤ (x.2 ++ risen cols (endS cols (x.1, [])).2).length + boundS (endS cols (x.1, [])).1 []) : FewInv cols R0 best n st :=
  few_pop h h.solved (few_low h (Nat.le_refl _) fun S S' _ hS' hs' hle => by
    obtain ⟨T, _, hTs, hT⟩ := end_down (h.right x (by simp)) hS' hs'
    have := bound_least hTs
    rw [List.length_append, few_tlen h] at hc
    omega)
theorem pow_two_split {a b k : Nat} (ha : a < k) (hb : b < k) : (2 ^ a - 1) + (2 ^ b - 1) + 1 ≤ 2 ^ k - 1 := by
  have h1 := Nat.pow_le_pow_right (show 0 < 2 by decide) (show a ≤ k - 1 by omega)
  have h2 := Nat.pow_le_pow_right (show 0 < 2 by decide) (show b ≤ k - 1 by omega)
  have h3 : 2 ^ k = 2 * 2 ^ (k - 1) := by rw [← Nat.pow_succ']; congr 1; omega
  have := Nat.one_le_two_pow (n := a)
  have := Nat.one_le_two_pow (n := b)
  omega
theorem few_kinds {cols : Nat} {R0 : Mat} {best : List Int} {n : Nat} {st : Stk} {x : Mat × List Int} (h : FewInv cols R0 best n (st ++ [x])) {c : Int} (hc : ∃ r ∈ (endS cols (x.1, [])).1, c ∈ r) :
    (0 ≤ c ∧ c < cols) ∧ kinds cols (dropC (endS cols (x.1, [])).1 c) < kinds cols x.1 ∧ kinds cols (withoutM (endS cols (x.1, [])).1 c) < kinds cols x.1 := by
  have hi := end_inv (h.right x (by simp))
  obtain ⟨r, hr, hcr⟩ := hc
  have hrng := hi.right.rng r hr c hcr
  have h1 := kinds_sub (cols := cols) hi.sub
  have h2 := kinds_lt (cols := cols) (drop_sub (endS cols (x.1, [])).1 c) hrng.1 hrng.2 ⟨r, hr, hcr⟩ (drop_gone _ c)
  have h3 := kinds_lt (cols := cols) (without_sub (endS cols (x.1, [])).1 c) hrng.1 hrng.2 ⟨r, hr, hcr⟩ (without_gone _ c)
  exact ⟨hrng, by omega, by omega⟩
theorem few_branch {cols : Nat} {R0 : Mat} {best : List Int} {n : Nat} {st : Stk} {x : Mat × List Int} (h : FewInv cols R0 best n (st ++ [x])) {c : Int} (hc : ∃ r ∈ (endS cols (x.1, [])).1, c ∈ r) :
    FewInv cols R0 best (n + 1) (st ++ [(dropC (endS cols (x.1, [])).1 c, x.2 ++ risen cols (endS cols (x.1, [])).2), (withoutM (endS cols (x.1, [])).1 c, (x.2 ++ risen cols (endS cols (x.1, [])).2) ++ [c])]) ∧
      n + 1 ≤ 2 ^ cols - 1 ∧
      heftS cols (st ++ [(dropC (endS cols (x.1, [])).1 c, x.2 ++ risen cols (endS cols (x.1, [])).2), (withoutM (endS cols (x.1, [])).1 c, (x.2 ++ risen cols (endS cols (x.1, [])).2) ++ [c])]) < heftS cols (st ++ [x]) := by
  have hR := h.right x (by simp)
  have hi := end_inv hR
  have ht := few_taken h
  have htl := few_tlen h
  have hrl := risen_len_le cols (endS cols (x.1, [])).2
  have hlen : (endS cols (x.1, [])).1.length ≤ x.1.length := run_len (s := (x.1, [])) _
  obtain ⟨hrng, hk1, hk2⟩ := few_kinds h hc
  have hsp := pow_two_split hk1 hk2
  have hst := h.steps
  have hlx := h.len x (by simp)
  have hrx := h.rows x (by simp)
  rw [load_snoc] at hst
  have hmul : ∀ k, k < kinds cols x.1 → (cols + 1) * k + (cols + 1) ≤ (cols + 1) * kinds cols x.1 := fun k hk => by
    have := Nat.mul_le_mul_left (cols + 1) (show k + 1 ≤ kinds cols x.1 by omega)
    rw [Nat.mul_add, Nat.mul_one] at this
    exact this
  have hright := hi.right
  generalize hE : (endS cols (x.1, [])).1 = E at *
  generalize hT : risen cols (endS cols (x.1, [])).2 = T at *
  refine ⟨⟨?_, ?_, ?_, h.solved, ?_, ?_, ?_, ?_⟩, ?_, ?_⟩
  · intro y hy
    rcases List.mem_append.1 hy with hy | hy
    · exact h.right y (by simp [hy])
    · simp only [List.mem_cons, List.not_mem_nil, or_false] at hy
      rcases hy with rfl | rfl
      · exact drop_right hright c
      · exact without_right hright c
  · intro y hy
    rcases List.mem_append.1 hy with hy | hy
    · exact h.rows y (by simp [hy])
    · simp only [List.mem_cons, List.not_mem_nil, or_false] at hy
      rcases hy with rfl | rfl
      · show (dropC E c).length ≤ _
        unfold dropC; rw [List.length_map]; omega
      · show (withoutM E c).length ≤ _
        have := List.length_filter_le (fun r => !decide (c ∈ r)) E
        unfold withoutM; omega
  · intro y hy S hS
    rcases List.mem_append.1 hy with hy | hy
    · exact h.ok y (by simp [hy]) S hS
    · simp only [List.mem_cons, List.not_mem_nil, or_false] at hy
      rcases hy with rfl | rfl
      · exact ht S (drop_solves hS)
      · have := ht (c :: S) (without_solves hS)
        show SolvesM R0 (((x.2 ++ T) ++ [c]) ++ S)
        rw [List.append_assoc]
        exact this
  · intro S hS hs
    rcases h.low S hS hs with h1 | ⟨y, hy, S', hS', hs', hl⟩
    · exact .inl h1
    · right
      rcases List.mem_append.1 hy with hy | hy
      · exact ⟨y, by simp [hy], S', hS', hs', hl⟩
      · obtain rfl : y = x := by simpa using hy
        obtain ⟨U, hU, hUs, hUl⟩ := end_down hR hS' hs'
        rw [hE] at hUs
        rcases branch (c := c) hUs with ⟨hcU, hb⟩ | hb
        · refine ⟨(withoutM E c, (y.2 ++ T) ++ [c]), by simp, U.erase c, colset_erase hU c, hb, ?_⟩
          have h1 := List.length_erase_of_mem hcU
          have h2 := List.length_pos_of_mem hcU
          show ((y.2 ++ T) ++ [c]).length + _ ≤ _
          rw [List.length_append, List.length_append, htl]
          simp only [List.length_cons, List.length_nil]
          omega
        · refine ⟨(dropC E c, y.2 ++ T), by simp, U, hU, hb, ?_⟩
          show (y.2 ++ T).length + _ ≤ _
          rw [List.length_append, htl]
          omega
  · have : st ++ [(dropC E c, x.2 ++ T), (withoutM E c, (x.2 ++ T) ++ [c])] = (st ++ [(dropC E c, x.2 ++ T)]) ++ [(withoutM E c, (x.2 ++ T) ++ [c])] := by simp
    rw [this, load_snoc, load_snoc]
    show n + 1 + (loadS cols st + (2 ^ kinds cols (dropC E c) - 1) + (2 ^ kinds cols (withoutM E c) - 1)) ≤ _
    omega
  · intro y hy
    rcases List.mem_append.1 hy with hy | hy
    · exact h.len y (by simp [hy])
    · simp only [List.mem_cons, List.not_mem_nil, or_false] at hy
      rcases hy with rfl | rfl
      · show (x.2 ++ T).length + (cols + 1) * kinds cols (dropC E c) ≤ _
        have := hmul _ hk1
        rw [List.length_append]; omega
      · show ((x.2 ++ T) ++ [c]).length + (cols + 1) * kinds cols (withoutM E c) ≤ _
        have := hmul _ hk2
        rw [List.length_append, List.length_append]
        simp only [List.length_cons, List.length_nil]
        omega
  · intro i y hy
    have hx := h.high st.length x (by simp)
    by_cases hil : i < st.length
    · rw [List.getElem?_append_left hil] at hy
      refine h.high i y ?_
      rw [List.getElem?_append_left hil]; exact hy
    · rw [List.getElem?_append_right (by omega)] at hy
      obtain ⟨hi2, hy⟩ := List.getElem?_eq_some_iff.1 hy
      simp only [List.length_cons, List.length_nil] at hi2
      have : i - st.length = 0 ∨ i - st.length = 1 := by omega
      rcases this with h0 | h0
      · simp only [h0, List.getElem_cons_zero] at hy
        subst hy
        show i + kinds cols (dropC E c) ≤ cols
        omega
      · simp only [h0, List.getElem_cons_succ, List.getElem_cons_zero] at hy
        subst hy
        show i + kinds cols (withoutM E c) ≤ cols
        omega
  · omega
  · have : st ++ [(dropC E c, x.2 ++ T), (withoutM E c, (x.2 ++ T) ++ [c])] = (st ++ [(dropC E c, x.2 ++ T)]) ++ [(withoutM E c, (x.2 ++ T) ++ [c])] := by simp
    rw [this, heft_snoc, heft_snoc, heft_snoc]
    show heftS cols st + (2 ^ (kinds cols (dropC E c) + 1) - 1) + (2 ^ (kinds cols (withoutM E c) + 1) - 1) < _
    have := pow_two_split (show kinds cols (dropC E c) + 1 < kinds cols x.1 + 1 by omega) (show kinds cols (withoutM E c) + 1 < kinds cols x.1 + 1 by omega)
    omega
theorem few_end {cols : Nat} {R0 : Mat} (hR : RightM cols R0) {best : List Int} {n : Nat} (h : FewInv cols R0 best n []) :
    IsBest cols R0 ((risen cols best).length : Int) ∧ SolvesM R0 (risen cols best) := by
  have hs := risen_solves hR h.solved
  refine ⟨.inr ⟨_, risen_col cols best, hs, rfl, fun S hS hs' => ?_⟩, hs⟩
  rcases h.low S hS hs' with h1 | ⟨x, hx, _⟩
  · exact Nat.le_trans (risen_le cols best) h1
  · cases hx

/-! ### The column that is in most rows -/
def cntM (R : Mat) (c : Int) : Nat := R.countP fun r => decide (c ∈ r)
/-- The least of the columns that are in most rows. -/
def IsBusy (R : Mat) (c : Int) : Prop := 0 < cntM R c ∧ ∀ d, cntM R d < cntM R c ∨ (cntM R d = cntM R c ∧ c ≤ d)
theorem busy_unique {R : Mat} {c d : Int} (hc : IsBusy R c) (hd : IsBusy R d) : c = d := by
  have h1 := hc.2 d
  have h2 := hd.2 c
  omega
theorem cnt_pos {R : Mat} {c : Int} : 0 < cntM R c ↔ ∃ r ∈ R, c ∈ r := by
  unfold cntM
  rw [List.countP_pos_iff]
  simp only [decide_eq_true_eq]
theorem busy_in {R : Mat} {c : Int} (h : IsBusy R c) : ∃ r ∈ R, c ∈ r := cnt_pos.1 h.1
theorem cnt_out {cols : Int} {R : Mat} (hR : RightM cols R) {c : Int} (h : c < 0 ∨ cols ≤ c) : cntM R c = 0 := by
  rcases Nat.eq_zero_or_pos (cntM R c) with h0 | h0
  · exact h0
  · obtain ⟨r, hr, hc⟩ := cnt_pos.1 h0
    have := hR.rng r hr c hc
    omega
/-- The first of the columns below n that are in most rows. -/
def firstMost (R : Mat) (n : Nat) (b : Int) : Prop := (0 ≤ b ∧ (b < n ∨ b = 0)) ∧ ∀ d : Nat, d < n → cntM R d < cntM R b ∨ (cntM R d = cntM R b ∧ b ≤ d)
theorem firstMost_end {cols : Nat} {R : Mat} (hR : RightM cols R) (hb : [] ∉ R) (hne : R ≠ []) {b : Int} (h : firstMost R cols b) : IsBusy R b := by
  obtain ⟨r, hr⟩ := List.exists_mem_of_ne_nil R hne
  obtain ⟨k, hk⟩ := List.exists_mem_of_ne_nil r (fun e => hb (by rw [← e]; exact hr))
  have hrng := hR.rng r hr k hk
  have hpos : 0 < cntM R k := cnt_pos.2 ⟨r, hr, hk⟩
  have h1 := h.2 k.toNat (by omega)
  rw [show ((k.toNat : Nat) : Int) = k by omega] at h1
  refine ⟨by omega, fun d => ?_⟩
  by_cases hd : 0 ≤ d ∧ d < cols
  · have h2 := h.2 d.toNat (by omega)
    rw [show ((d.toNat : Nat) : Int) = d by omega] at h2
    exact h2
  · left
    rw [cnt_out hR (c := d) (by omega)]
    omega
/-- Greedy columns, in the order in which they are taken. -/
inductive Greedy : Mat → List Int → Prop
  | nil : Greedy [] []
  | cons {R : Mat} {c : Int} {l : List Int} : IsBusy R c → Greedy (withoutM R c) l → Greedy R (c :: l)
theorem greedy_unique {R : Mat} {l : List Int} (h : Greedy R l) : ∀ {l' : List Int}, Greedy R l' → l = l' := by
  induction h with
  | nil =>
    intro l' h'
    cases h' with
    | nil => rfl
    | cons hb _ => obtain ⟨r, hr, _⟩ := busy_in hb; cases hr
  | cons hb _ ih =>
    intro l' h'
    cases h' with
    | nil => obtain ⟨r, hr, _⟩ := busy_in hb; cases hr
    | cons hb' hg => obtain rfl := busy_unique hb hb'; rw [ih hg]
theorem greedy_solves {R : Mat} {l : List Int} (h : Greedy R l) : SolvesM R l := by
  induction h with
  | nil => intro r hr; cases hr
  | cons _ _ ih => exact without_solves ih
theorem without_lt {R : Mat} {c : Int} (h : ∃ r ∈ R, c ∈ r) : (withoutM R c).length < R.length := by
  obtain ⟨r, hr, hc⟩ := h
  unfold withoutM
  rw [List.length_filter_lt_length_iff_exists]
  exact ⟨r, hr, by simp [hc]⟩
theorem greedy_len {R : Mat} {l : List Int} (h : Greedy R l) : l.length ≤ R.length := by
  induction h with
  | nil => exact Nat.le_refl _
  | cons hb _ ih =>
    have := without_lt (busy_in hb)
    simp only [List.length_cons]; omega
end Go.Dk
end

section
/- Maps whose values are slices of one's own; ranges over maps. -/
namespace Go.Dk
open Go.ChangeMaps (setBlock)
open Go.MapKept (Stamped)

theorem perm_set {α : Type} : ∀ {l : List α} {j : Nat}, j < l.length → ∀ x : α, (l.set j x).Perm (x :: l.eraseIdx j)
  | [], _, h, _ => by simp at h
  | y :: l, 0, _, x => by simp
  | y :: l, j + 1, h, x => by
    rw [List.set_cons_succ, List.eraseIdx_cons_succ]
    exact ((perm_set (l := l) (j := j) (by simpa using h) x).cons y).trans (List.Perm.swap x y _)
theorem perm_get {α : Type} {l : List α} {j : Nat} {x : α} (h : l[j]? = some x) : l.Perm (x :: l.eraseIdx j) := by
  obtain ⟨hj, rfl⟩ := List.getElem?_eq_some_iff.1 h
  have := perm_set hj l[j]
  rwa [List.set_getElem_self] at this

section
variable {α β : Type} {ka : α → Value} {vb : β → Value} {z : Value} {P : Program} {t kt et : TypeId} {w0 w : World} {F : Nat → Prop} {L M : List Res} {k kk : Value → World → Prop}
theorem lookup_at [DecidableEq α] {l : List (α × β)} {r : Nat} (hr : (mapR ka vb r l).ok w) (W : MapW P t kt et ka vb z) (a : α)
    (h : kk (((aget l a).map vb).getD z) w) : lookupK P t (.map (some r)) (ka a) false w kk := by
  obtain ⟨es, clock, hb, hs, hl⟩ := hr
  unfold lookupK
  rcases mapR_find W hs hl a w with ⟨hf, hg, _⟩ | ⟨j, e, b, hf, he, hek, hlj, hv, hg⟩
  · rw [hg] at h
    exact ⟨_, w, by simp [Instr.lookup, run_underlying W.und, MapKept.run_getObj_map hb, W.key.check w _ ⟨a, rfl⟩, hf, run_zero W.zero, Result.andThen], h⟩
  · rw [hg] at h
    exact ⟨_, w, by simp [Instr.lookup, run_underlying W.und, MapKept.run_getObj_map hb, W.key.check w _ ⟨a, rfl⟩, hf, hv, Result.andThen], h⟩
theorem mapR_nodup {l : List (α × β)} {r : Nat} (hr : (mapR ka vb r l).ok w) (hi : ∀ a b, ka a = ka b → a = b) : (akeys l).Nodup := by
  obtain ⟨es, clock, _, hs, hl⟩ := hr
  exact mapR_keys hi hs hl

/-! ### Values that are slices -/
abbrev MsL (α : Type) := List (α × Value × List Value)
def msM (l : MsL α) : List (α × Value) := l.map fun x => (x.1, x.2.1)
def msO (e : TypeId) (x : α × Value × List Value) : Res := own e 1 x.2.1 x.2.2.length x.2.2
/-- A map whose values are slices of one's own. -/
def msR (ka : α → Value) (e : TypeId) (r : Nat) (l : MsL α) : Res := seps (mapR ka (fun v : Value => v) r (msM l) :: l.map (msO e))
theorem akeys_msM (l : MsL α) : akeys (msM l) = akeys l := by unfold akeys msM; rw [List.map_map]; rfl
theorem Hp.msMake (H : Hp w0 F w L M) (ka : α → Value) (e : TypeId)
    (h : ∀ r w', Hp w0 F w' (msR ka e r [] :: L) M → k (.map (some r)) w') : makeMapK P t none w k :=
  H.makeMap ka (fun v : Value => v) fun r w' H => h r w' (Hp.join (Ls := [mapR ka (fun v : Value => v) r (msM ([] : MsL α))]) H)
theorem msR_map {e : TypeId} {r : Nat} {l : MsL α} (h : (msR ka e r l).ok w) : (mapR ka (fun v : Value => v) r (msM l)).ok w := h.1 _ (.head _)
variable [DecidableEq α]
def msV (l : MsL α) (a : α) : Value := ((aget l a).map (·.1)).getD (.slice none 0 0)
def msX (l : MsL α) (a : α) : List Value := ((aget l a).map (·.2)).getD []
theorem aget_msM (l : MsL α) (a : α) : aget (msM l) a = (aget l a).map (·.1) := by
  unfold aget msM
  induction l with
  | nil => rfl
  | cons x l ih =>
    rw [List.map_cons, List.find?_cons, List.find?_cons]
    by_cases h : x.1 = a
    · simp [h]
    · simp only [h, decide_false]
      exact ih
theorem aget_place {γ : Type} {l : List (α × γ)} {a : α} {b : γ} (h : aget l a = some b) : ∃ j : Nat, l[j]? = some (a, b) := by
  unfold aget at h
  cases hf : l.find? fun p => decide (p.1 = a) with
  | none => rw [hf] at h; cases h
  | some p =>
    rw [hf] at h
    injection h with h
    have h1 := List.find?_some hf
    have h2 := List.mem_of_find?_eq_some hf
    obtain ⟨j, hj⟩ := List.getElem?_of_mem h2
    refine ⟨j, ?_⟩
    rw [hj]
    obtain ⟨x, y⟩ := p
    have : x = a := by simpa using h1
    simp only at h
    rw [this, h]
theorem aset_set {γ : Type} {l : List (α × γ)} (hn : (akeys l).Nodup) {j : Nat} {a : α} {b0 : γ} (h : l[j]? = some (a, b0)) (b : γ) : aset l a b = l.set j (a, b) := by
  have hg := aget_of_mem hn (List.mem_of_getElem? h)
  unfold aset
  rw [hg]
  simp only [Option.isSome_some, if_true]
  apply List.ext_getElem?
  intro i
  rw [List.getElem?_map, List.getElem?_set]
  obtain ⟨hj, _⟩ := List.getElem?_eq_some_iff.1 h
  by_cases hij : j = i
  · subst hij
    rw [if_pos rfl, if_pos hj, h]; simp
  · rw [if_neg hij]
    cases hi : l[i]? with
    | none => rfl
    | some p =>
      have hne : p.1 ≠ a := fun e => by
        have h1 : (akeys l)[i]? = some a := by unfold akeys; rw [List.getElem?_map, hi, ← e]; rfl
        have h2 : (akeys l)[j]? = some a := by unfold akeys; rw [List.getElem?_map, h]; rfl
        exact hij ((List.getElem?_inj (List.getElem?_eq_some_iff.1 h2).1 hn).1 (h2.trans h1.symm))
      simp [hne]
theorem msM_aset (l : MsL α) (a : α) (v : Value) (xs : List Value) : msM (aset l a (v, xs)) = aset (msM l) a v := by
  unfold aset
  rw [aget_msM]
  cases aget l a with
  | none => simp [msM]
  | some b =>
    simp only [Option.isSome_some, Option.map_some, if_true]
    unfold msM
    rw [List.map_map, List.map_map]
    refine List.map_congr_left fun p _ => ?_
    simp only [Function.comp_apply]
    split <;> rfl
/-- To write a value: the map, the slice that stands there, and how it is shut. -/
theorem Hp.msOpen {e : TypeId} {r : Nat} {l : MsL α} (H : Hp w0 F w (msR ka e r l :: L) M) (hi : ∀ a b, ka a = ka b → a = b) (a : α) : ∃ v xs Ls, msV l a = v ∧ msX l a = xs ∧ Hp w0 F w (mapR ka (fun v : Value => v) r (msM l) :: own e 1 v xs.length xs :: (Ls ++ L)) M ∧
    ∀ w' v' xs', Hp w0 F w' (mapR ka (fun v : Value => v) r (aset (msM l) a v') :: own e 1 v' xs'.length xs' :: (Ls ++ L)) M → Hp w0 F w' (msR ka e r (aset l a (v', xs')) :: L) M := by
  have H' := H.split
  have hn : (akeys l).Nodup := by
    have := mapR_nodup (H'.get 0 rfl) hi
    rwa [akeys_msM] at this
  cases hg : aget l a with
  | none =>
    refine ⟨.slice none 0 0, [], l.map (msO e), by unfold msV; rw [hg]; rfl, by unfold msX; rw [hg]; rfl, ?_, fun w' v' xs' H2 => ?_⟩
    · exact (H'.ownNil e 1).perm (List.Perm.swap _ _ _)
    · have e1 : aset l a (v', xs') = l ++ [(a, v', xs')] := by unfold aset; rw [hg]; rfl
      unfold msR
      refine Hp.join ?_
      rw [msM_aset, e1, List.map_append, List.cons_append, List.append_assoc]
      refine H2.perm (List.Perm.cons _ ?_)
      exact (List.perm_middle (a := own e 1 v' xs'.length xs') (l₁ := l.map (msO e)) (l₂ := L)).symm
  | some b =>
    obtain ⟨v, xs⟩ := b
    obtain ⟨j, hj⟩ := aget_place hg
    have hjl := (List.getElem?_eq_some_iff.1 hj).1
    have hjm : (l.map (msO e))[j]? = some (own e 1 v xs.length xs) := by rw [List.getElem?_map, hj]; rfl
    refine ⟨v, xs, (l.map (msO e)).eraseIdx j, by unfold msV; rw [hg]; rfl, by unfold msX; rw [hg]; rfl, ?_, fun w' v' xs' H2 => ?_⟩
    · refine H'.perm ?_
      rw [List.cons_append]
      refine List.Perm.cons _ ?_
      have := (perm_get hjm).append_right L
      rwa [List.cons_append] at this
    · unfold msR
      refine Hp.join ?_
      rw [msM_aset, aset_set hn hj, List.map_set, List.cons_append]
      refine H2.perm (List.Perm.cons _ ?_)
      have := ((perm_set (l := l.map (msO e)) (j := j) (by simpa using hjl) (msO e (a, v', xs'))).append_right L).symm
      rwa [List.cons_append] at this
theorem msR_own {e : TypeId} {r : Nat} {l : MsL α} (h : (msR ka e r l).ok w) (a : α) : (own e 1 (msV l a) (msX l a).length (msX l a)).ok w := by
  unfold msV msX
  cases hg : aget l a with
  | none => exact World.ownsRow_nil w 0 e 1
  | some b =>
    obtain ⟨j, hj⟩ := aget_place hg
    exact h.1 _ (.tail _ (List.mem_map.2 ⟨_, List.mem_of_getElem? hj, rfl⟩))
theorem msR_form {e : TypeId} {r : Nat} {l : MsL α} (h : (msR ka e r l).ok w) (a : α) : ∃ A c, msV l a = .slice A (msX l a).length c := by
  obtain ⟨A, c, hv, _⟩ := own_form (msR_own h a)
  exact ⟨A, c, hv⟩
/-- m[k], of slices. -/
theorem msLookup_at {e : TypeId} {r : Nat} {l : MsL α} (h : (msR ka e r l).ok w) (W : MapW P t kt et ka (fun v : Value => v) (.slice none 0 0)) (a : α) (hk : kk (msV l a) w) : lookupK P t (.map (some r)) (ka a) false w kk := by
  refine lookup_at (msR_map h) W a ?_
  rw [aget_msM, Option.map_map]
  exact hk
theorem msV_aset (l : MsL α) (a c : α) (b : Value × List Value) : msV (aset l a b) c = if c = a then b.1 else msV l c := by
  unfold msV; rw [aget_aset]; split <;> rfl
theorem msX_aset (l : MsL α) (a c : α) (b : Value × List Value) : msX (aset l a b) c = if c = a then b.2 else msX l c := by
  unfold msX; rw [aget_aset]; split <;> rfl
end

/-! ### Ranges -/
section
variable {α β : Type} {ka : α → Value} {vb : β → Value} {z : Value} {P : Program} {t kt et : TypeId} {w0 w : World} {F : Nat → Prop} {L M : List Res} {k kk : Value → World → Prop}
def pairE (e : MapEntry) : Value × Value := (e.key, e.val)
def pairV (ka : α → Value) (vb : β → Value) (p : α × β) : Value × Value := (ka p.1, vb p.2)
def rngOk (ka : α → Value) (vb : β → Value) (bm r : Nat) (l D : List (α × β)) (w : World) : Prop :=
  ∃ (es : Array MapEntry) (clock since : Nat) (seen : Array Nat) (ds : List MapEntry), w.heap[bm]? = some (.map es clock) ∧ Stamped es clock ∧ es.toList.map pairE = l.map (pairV ka vb) ∧
    w.heap[r]? = some (.mapIter (some bm) since seen clock) ∧ (∀ x ∈ es.toList, x.born < since) ∧ since ≤ clock ∧ r ≠ bm ∧ seen.toList = ds.map (·.born) ∧ (∀ d ∈ ds, d ∈ es.toList) ∧ ds.map pairE = D.map (pairV ka vb)
/-- A map that is ranged over, and what has been handed out. -/
def rngR (ka : α → Value) (vb : β → Value) (bm r : Nat) (l D : List (α × β)) : Res :=
  ⟨fun g => g = bm ∨ g = r, rngOk ka vb bm r l D, fun w w' h ⟨es, clock, since, seen, ds, h1, h2, h3, h4, h5⟩ => ⟨es, clock, since, seen, ds, (h bm (.inl rfl)).trans h1, h2, h3, (h r (.inr rfl)).trans h4, h5⟩⟩
theorem rng_map {bm r : Nat} {l D : List (α × β)} (h : (rngR ka vb bm r l D).ok w) : (mapR ka vb bm l).ok w := by
  obtain ⟨es, clock, _, _, _, h1, h2, h3, _⟩ := h
  exact ⟨es, clock, h1, h2, h3⟩
theorem Hp.rangeMap {l : List (α × β)} {bm : Nat} (H : Hp w0 F w (mapR ka vb bm l :: L) M) {k0 e0 : TypeId} (ht : P.underlying t = some (.map k0 e0))
    (h : ∀ r w', Hp w0 F w' (rngR ka vb bm r l [] :: L) M → k (.pointer (some ⟨r, 0, none⟩)) w') : rangeK P t (.map (some bm)) w k := by
  obtain ⟨es, clock, hb, hs, hl⟩ := H.get 0 rfl
  have hlt : bm < w.heap.size := (Array.getElem?_eq_some_iff.1 hb).1
  unfold rangeK
  refine ⟨_, w.alloc (.mapIter (some bm) clock #[] clock), run_range_map w t k0 e0 bm es clock ht hb, h w.heap.size _ ?_⟩
  have H1 := H.add (Keeps.alloc w (.mapIter (some bm) clock #[] clock)) ⟨fun g => g = w.heap.size, fun u => u.heap[w.heap.size]? = some (.mapIter (some bm) clock #[] clock), fun _ _ h hw => (h _ rfl).trans hw⟩ (heap_alloc_new w _)
    (by rintro g rfl; exact ⟨Nat.le_refl _, by simp⟩)
  have hb' : (w.alloc (.mapIter (some bm) clock #[] clock)).heap[bm]? = some (.map es clock) := (heap_alloc_old w _ hlt).trans hb
  refine (Hp.join (Ls := [_, mapR ka vb bm l]) (L := L) H1).re (fun hok => ?_) (fun g hg => ?_)
  · have h1 := hok.1 _ (.head _)
    refine ⟨es, clock, clock, #[], [], hb', hs, hl, h1, hs.1, Nat.le_refl _, by omega, rfl, by simp, rfl⟩
  · rcases hg with rfl | rfl
    · exact ⟨mapR ka vb g l, .tail _ (.head _), rfl⟩
    · exact ⟨_, .head _, rfl⟩
theorem Hp.rangeDone {l D : List (α × β)} {bm r : Nat} (H : Hp w0 F w (rngR ka vb bm r l D :: L) M) : Hp w0 F w (mapR ka vb bm l :: L) M := H.re rng_map (by rintro g rfl; exact .inl rfl)
theorem pairV_inj (hi : ∀ a b, ka a = ka b → a = b) (hv : ∀ a b, vb a = vb b → a = b) {p q : α × β} (h : pairV ka vb p = pairV ka vb q) : p = q := by
  obtain ⟨a, b⟩ := p
  obtain ⟨c, d⟩ := q
  unfold pairV at h
  injection h with h1 h2
  rw [show a = c from hi _ _ h1, show b = d from hv _ _ h2]
theorem Hp.nextMap (H : Hp w0 F w L M) (n : Nat) {ty : TypeId} {bm r : Nat} {l D : List (α × β)} (hn : L[n]? = some (rngR ka vb bm r l D)) (hi : ∀ a b, ka a = ka b → a = b) (hv : ∀ a b, vb a = vb b → a = b)
    (h1 : (∀ p ∈ l, p ∈ D) → kk (.tuple #[.bool false]) w)
    (h2 : ∀ a b w', (a, b) ∈ l → (a, b) ∉ D → Hp w0 F w' (L.set n (rngR ka vb bm r l (D ++ [(a, b)]))) M → kk (.tuple #[.bool true, ka a, vb b]) w') : nextK P (.pointer (some ⟨r, 0, none⟩)) false ty w kk := by
  obtain ⟨es, clock, since, seen, ds, hb, hs, hl, hr, hold, hsc, hne, hseen, hds, hD⟩ := H.get n hn
  have hrl : r < w.heap.size := (Array.getElem?_eq_some_iff.1 hr).1
  have hbl : bm < w.heap.size := (Array.getElem?_eq_some_iff.1 hb).1
  have hcon : ∀ x : MapEntry, x ∈ es.toList → (seen.contains x.born = true ↔ x ∈ ds) := fun x hx => by
    rw [Array.contains_iff_mem, ← Array.mem_toList_iff, hseen, List.mem_map]
    constructor
    · rintro ⟨d, hd, he⟩
      have hn2 := hs.2.1
      have h3 := find_born d es.toList hn2 (hds d hd)
      have h4 := find_born x es.toList hn2 hx
      rw [← he] at h4
      rw [h3] at h4
      injection h4 with h4
      exact h4 ▸ hd
    · intro hx; exact ⟨x, hx, rfl⟩
  have hent : ∀ x ∈ es.toList, ∃ p ∈ l, pairE x = pairV ka vb p := fun x hx => by
    have : pairE x ∈ es.toList.map pairE := List.mem_map.2 ⟨x, hx, rfl⟩
    rw [hl] at this
    obtain ⟨p, hp, he⟩ := List.mem_map.1 this
    exact ⟨p, hp, he.symm⟩
  unfold nextK
  rcases run_next_at (P := P) w ty r bm since clock seen es clock hr hb hold hsc with ⟨h0, hrun⟩ | ⟨e, he, w1, hw1, hrun⟩
  · refine ⟨_, w, hrun, h1 fun p hp => ?_⟩
    have : pairV ka vb p ∈ l.map (pairV ka vb) := List.mem_map.2 ⟨p, hp, rfl⟩
    rw [← hl] at this
    obtain ⟨x, hx, hxe⟩ := List.mem_map.1 this
    have hxs : x ∈ ds := (hcon x hx).1 (by
      cases hc : seen.contains x.born with
      | true => rfl
      | false =>
        have hm : x ∈ leftOf es seen := Array.mem_filter.2 ⟨Array.mem_toList_iff.1 hx, by rw [hc]; rfl⟩
        have := Array.size_pos_of_mem hm
        omega)
    have : pairE x ∈ ds.map pairE := List.mem_map.2 ⟨x, hxs, rfl⟩
    rw [hD, hxe] at this
    obtain ⟨q, hq, hqe⟩ := List.mem_map.1 this
    exact pairV_inj hi hv hqe ▸ hq
  · obtain ⟨hee, hec⟩ := mem_left he
    obtain ⟨⟨a, b⟩, hp, hpe⟩ := hent e hee
    have hkey : e.key = ka a := congrArg Prod.fst hpe
    have hval : e.val = vb b := congrArg Prod.snd hpe
    rw [hkey, hval] at hrun
    have hheap : w1.heap = w.heap ∧ w1.os = w.os ∧ w1.tape = w.tape ∧ w1.output = w.output := by rcases hw1 with rfl | rfl <;> exact ⟨rfl, rfl, rfl, rfl⟩
    obtain ⟨hh, ho, htp, hou⟩ := hheap
    have hset := MapKept.heap_set (w := w1) (o' := .mapIter (some bm) since (seen.push e.born) clock) (by rw [hh]; exact hr)
    have hnd : e ∉ ds := fun hd => by rw [(hcon e hee).2 hd] at hec; cases hec
    refine ⟨_, _, hrun, h2 a b _ hp (fun hpD => ?_) (H.turn n hn _ ⟨by show (setBlock w1 r _).os = w.os; exact ho, htp, hou, ?_, fun g hg hgf => ?_⟩ ?_ ?_)⟩
    · have : pairV ka vb (a, b) ∈ D.map (pairV ka vb) := List.mem_map.2 ⟨_, hpD, rfl⟩
      rw [← hD] at this
      obtain ⟨d, hd, hde⟩ := List.mem_map.1 this
      have hk : d.key = e.key := by rw [hkey]; exact congrArg Prod.fst hde
      have hn3 := hs.2.2
      have : d = e := by
        obtain ⟨i, hi1, hi2⟩ := List.getElem_of_mem (hds d hd)
        obtain ⟨j, hj1, hj2⟩ := List.getElem_of_mem hee
        have hij : i = j := by
          refine (List.getElem?_inj (by simpa using hi1) hn3).1 ?_
          rw [List.getElem?_map, List.getElem?_map, List.getElem?_eq_getElem hi1, List.getElem?_eq_getElem hj1, hi2, hj2]
          exact congrArg some hk
        subst hij
        rw [← hi2, ← hj2]
      exact hnd (this ▸ hd)
    · show w.heap.size ≤ (w1.heap.setIfInBounds r _).size
      simp [hh]
    · have hgr : g ≠ r := fun e => hgf (.inr e)
      rw [← hh]
      exact hset.2 g hgr
    · refine ⟨es, clock, since, seen.push e.born, ds ++ [e], ?_, hs, hl, hset.1, hold, hsc, hne, ?_, ?_, ?_⟩
      · exact (hset.2 bm (Ne.symm hne)).trans (by rw [hh]; exact hb)
      · simp [hseen]
      · intro d hd
        rcases List.mem_append.1 hd with hd | hd
        · exact hds d hd
        · rw [List.mem_singleton.1 hd]; exact hee
      · rw [List.map_append, List.map_append, hD]
        simp [hpe]
    · intro g hg
      refine ⟨?_, .inl hg⟩
      show g < (w1.heap.setIfInBounds r _).size
      rw [Array.size_setIfInBounds, hh]
      rcases hg with rfl | rfl
      · exact hbl
      · exact hrl
/-- The entry that was handed out last. -/
theorem entryMap_at {bm r : Nat} {l D : List (α × β)} {a : α} {b : β} (h : (rngR ka vb bm r l (D ++ [(a, b)])).ok w) (hk : kk (.tuple #[ka a, vb b]) w) : entryK P (.pointer (some ⟨r, 0, none⟩)) w kk := by
  obtain ⟨es, clock, since, seen, ds, hb, hs, hl, hr, hold, hsc, hne, hseen, hds, hD⟩ := h
  rw [List.map_append, List.map_cons, List.map_nil] at hD
  have hlen : ds ≠ [] := fun e => by subst e; simp at hD
  obtain ⟨ds0, e, rfl⟩ : ∃ ds0 e, ds = ds0 ++ [e] := by
    rcases List.eq_nil_or_concat ds with e | ⟨ds0, e, he⟩
    · exact absurd e hlen
    · exact ⟨ds0, e, by simpa using he⟩
  rw [List.map_append, List.map_cons, List.map_nil] at hD hseen
  have he := (List.append_inj' hD rfl).2
  injection he with he _
  have hkey : e.key = ka a := congrArg Prod.fst he
  have hval : e.val = vb b := congrArg Prod.snd he
  have hpush : seen = ((ds0.map (·.born)).toArray).push e.born := by
    apply Array.toList_inj.1
    rw [hseen]; simp
  rw [hpush] at hr
  unfold entryK
  refine ⟨_, w, run_entry_at w r bm since _ es clock e hr hb (hds e (by simp)) hs.2.1, ?_⟩
  rw [hkey, hval]; exact hk
end
end Go.Dk
end

section
/- Slices of slices; what is appended from a slice that is only read. -/
namespace Go.Dk
section
variable {P : Program} {w0 w w' : World} {F : Nat → Prop} {L M : List Res} {k kk : Value → World → Prop}
theorem addr_add (g o j : Nat) : (⟨g, o, none⟩ : Addr).add j = ⟨g, o + j, none⟩ := by unfold Addr.add; split <;> simp_all
theorem elemOf {t e : TypeId} (ht : P.underlying t = some (.slice e)) : P.underlying t = some (.slice (P.elem t)) := by
  have : P.elem t = e := by simp [Program.elem, ht]
  rw [this]; exact ht
theorem elemIs {t e : TypeId} (ht : P.underlying t = some (.slice e)) : P.elem t = e := by simp [Program.elem, ht]
theorem Sl.empty {v : Value} {sz : Nat} {xs : List Value} {A : Option Addr} {c : Nat} (hv : v = .slice A 0 c) (hx : xs = []) : Sl w v sz 0 xs := by
  subst hx; subst hv
  exact ⟨by simp, A, c, rfl, Nat.zero_le _, .inl rfl⟩
/-- s[:i]. -/
theorem Sl.sliceTo {t e : TypeId} {sz l c i : Nat} {A : Option Addr} {xs : List Value} {kd : IntKind} {j : Int} (hs : Sl w (.slice A l c) sz l xs) (ht : P.underlying t = some (.slice e)) (hz : sizeT P e = some sz) (hj : j = (i : Int)) (hi : i ≤ l)
    (h : ∀ A' c', Sl w (.slice A' i c') sz i (xs.take (i * sz)) → kk (.slice A' i c') w) : sliceK P t (.slice A l c) none (some (.int kd j)) none w kk := by
  subst hj
  obtain ⟨hlen, A1, c1, hv, hlc, hcase⟩ := hs
  injection hv with e1 _ e2
  subst e1; subst e2
  unfold sliceK
  refine ⟨sliced A 0 i c sz, w, ?_, ?_⟩
  · rw [run_sliceAt_slice w t _ _ _ _ (elemOf ht), run_slice_h w t A l c (elemOf ht) kd (i : Int) (by omega) (by omega), elemIs ht, run_sizeOf hz]
    rfl
  · have e : sliced A 0 i c sz = .slice (if c = 0 then A else A.map (·.add 0)) i c := by unfold sliced; simp
    rw [e]
    refine h _ _ ?_
    rcases Nat.eq_zero_or_pos i with rfl | h0
    · exact Sl.empty rfl (by simp)
    · rcases hcase with h1 | ⟨g, o, rfl, hg, hx⟩
      · omega
      · refine ⟨?_, _, c, rfl, by omega, .inr ⟨g, o, ?_, hg, fun j hj => ?_⟩⟩
        · rw [List.length_take, hlen]
          have := Nat.mul_le_mul_right sz hi
          omega
        · rw [if_neg (by omega)]
          simp [addr_add]
        · have := Nat.mul_le_mul_right sz hi
          rw [hx j (by omega), List.getElem?_take]
          rw [if_pos hj]
/-- s[i:]. -/
theorem Sl.sliceFrom {t e : TypeId} {sz l c i : Nat} {A : Option Addr} {xs : List Value} {kd : IntKind} {j : Int} (hs : Sl w (.slice A l c) sz l xs) (ht : P.underlying t = some (.slice e)) (hz : sizeT P e = some sz) (hj : j = (i : Int)) (hi : i ≤ l)
    (h : ∀ A' c', Sl w (.slice A' (l - i) c') sz (l - i) (xs.drop (i * sz)) → kk (.slice A' (l - i) c') w) : sliceK P t (.slice A l c) (some (.int kd j)) none none w kk := by
  subst hj
  obtain ⟨hlen, A1, c1, hv, hlc, hcase⟩ := hs
  injection hv with e1 _ e2
  subst e1; subst e2
  unfold sliceK
  refine ⟨sliced A i l c sz, w, ?_, ?_⟩
  · rw [run_sliceAt_slice w t _ _ _ _ (elemOf ht), run_slice_l w t A l c (elemOf ht) kd (i : Int) (by omega) (by omega), elemIs ht, run_sizeOf hz]
    rfl
  · have e : sliced A i l c sz = .slice (if c = i then A else A.map (·.add (i * sz))) (l - i) (c - i) := rfl
    rw [e]
    refine h _ _ ?_
    rcases Nat.eq_zero_or_pos (l - i) with h0 | h0
    · rw [h0]
      refine Sl.empty rfl (List.drop_eq_nil_iff.2 ?_)
      have : l = i := by omega
      rw [hlen, this]; exact Nat.le_refl _
    · rcases hcase with h1 | ⟨g, o, rfl, hg, hx⟩
      · omega
      · refine ⟨?_, _, c - i, rfl, by omega, .inr ⟨g, o + i * sz, ?_, hg, fun j hj => ?_⟩⟩
        · rw [List.length_drop, hlen, Nat.sub_mul]
        · rw [if_neg (by omega)]
          simp [addr_add]
        · rw [Nat.sub_mul] at hj
          rw [Nat.add_assoc, hx (i * sz + j) (by omega), List.getElem?_drop]
/-- append of a slice that is only read. -/
theorem Hp.appendSl (H : Hp w0 F w L M) (n : Nat) {t e ty : TypeId} {z v : Value} {sz b l c d : Nat} {A : Option Addr} {xs ys : List Value} {cst : Array Bool} (T : SlT P t e z sz b)
    (hn : L[n]? = some (own e sz v l xs)) (hs : Sl w (.slice A c d) sz c ys) (h1 : ∀ u ∈ ys, u.oneCell' = true) (hl : (l + c) * b ≤ 140737488355328) (hl' : l + c < 1152921504606846976)
    (h : ∀ A d w', Hp w0 F w' (L.set n (own e sz (.slice A (l + c) d) (l + c) (xs ++ ys))) M → kk (.slice A (l + c) d) w') :
    builtinK P .append #[t, t] ty cst [v, .slice A c d] w kk := by
  obtain ⟨i, hi, hz, hs', hb⟩ := T.parts
  have hown : w.ownsRow 0 e sz v l xs := H.get n hn
  have hyl := hs.1
  rcases A with _ | a
  · have hc : c = 0 := by
      rcases Nat.eq_zero_or_pos c with h0 | h0
      · exact h0
      · obtain ⟨_, _, hA⟩ := hs.A h0; cases hA
    subst hc
    have hy : ys = [] := List.eq_nil_of_length_eq_zero (by simpa using hyl)
    subst hy
    obtain ⟨A', c', rfl, hlc'⟩ := own_form (H.get n hn)
    have hL : L.set n (own e sz (.slice A' (l + 0) c') (l + 0) (xs ++ [])) = L := by
      obtain ⟨h1, h2⟩ := List.getElem?_eq_some_iff.1 hn
      rw [List.append_nil, Nat.add_zero, ← h2]; exact List.set_getElem_self h1
    unfold builtinK
    refine ⟨_, w, ?_, h A' c' w (by rw [hL]; exact H)⟩
    show (do pure (.value (← Builtin.append_ #[t, t] ty #[.slice A' l c', .slice none 0 d])) : Sem Next).run P w = _
    simp [Builtin.append_, run_underlying T.und, sizeOf, typeInfo, hi, Builtin.lenOf, Builtin.firstCells, storeCells, hlc']
    cases A' <;> simp [Result.andThen]
  · obtain ⟨v', w', hrun, hown', hg, _, hloc⟩ := run_append_own_at (P := P) w 0 t ty e i z sz b T.und hi hz hs' hb T.zs T.pos v l xs hown a c d ys hyl
      (fun j u hu => by
        have hjl := (List.getElem?_eq_some_iff.1 hu).1
        have hc : 0 < c := by
          rcases Nat.eq_zero_or_pos c with h0 | h0
          · subst h0; simp at hyl; subst hyl; simp at hjl
          · exact h0
        obtain ⟨g', o', ha⟩ := hs.A hc
        injection ha with ha
        subst ha
        rw [addr_add, hs.cell j (by omega), hu]) h1 (by unfold maxLen; omega) hl (Nat.zero_le _)
    have hk : Keeps (own e sz v l xs).foot w w' := ⟨hg.os, hg.tape, hg.output, hg.size, fun x hx hne => hg.block x hx fun e => hne e.symm⟩
    have H' := H.turn n hn (own e sz v' (l + c) (xs ++ ys)) hk hown' (fun x hx => ⟨(World.ownsRow.lt (w := w') (base := 0) hown' x hx).2, by
      have hx' : v'.ownBlock = some x := hx
      rcases hloc with h | h
      · left; show v.ownBlock = some x; rw [← h]; exact hx'
      · right; rw [h] at hx'; injection hx' with hx'; omega⟩)
    have hv : ∃ A d, v' = .slice A (l + c) d := by
      rcases hown'.2 with ⟨rfl, h0⟩ | ⟨g', cap, cur, hv, _⟩
      · exact ⟨none, 0, by rw [h0]⟩
      · exact ⟨_, _, hv⟩
    obtain ⟨A, d', rfl⟩ := hv
    unfold builtinK
    refine ⟨_, w', ?_, h A d' w' H'⟩
    show (do pure (.value (← Builtin.append_ #[t, t] ty #[v, .slice (some a) c d])) : Sem Next).run P w = _
    rw [Sem.run_bind, hrun]
    rfl
end
end Go.Dk
end

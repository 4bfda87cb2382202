import Derived.Test.YtjebpngdinbckaaPart7
/- Lemmas, part 8: what the proof of the row uses. -/
section
/- The search: busiest. -/
namespace Go.Proofs.Ytjebpngdinbckaa
open Go.Dk
attribute [local irreducible] IntKind.wrap

theorem W253 : MapW Try.prog 253 3 3 kaI kaI (.int .i64 0) := ⟨Try.underlying253, KL3, kaI_inj, by kernel_rfl⟩
/-- A map that counts. -/
def mOk (l : List (Int × Int)) (f : Int → Nat) : Prop := ∀ c, aget l c = if f c = 0 then none else some ((f c : Nat) : Int)
theorem mOk.get {l : List (Int × Int)} {f : Int → Nat} (h : mOk l f) (k : Int) : ((aget l k).map kaI).getD (.int .i64 0) = .int .i64 ((f k : Nat) : Int) := by
  rw [h k]
  by_cases hk : f k = 0
  · rw [if_pos hk, hk]; rfl
  · rw [if_neg hk]; rfl
theorem mOk.add {l : List (Int × Int)} {f g : Int → Nat} (h : mOk l f) {k : Int} (hg : ∀ c, g c = if c = k then f k + 1 else f c) : mOk (aset l k ((f k + 1 : Nat) : Int)) g := fun c => by
  rw [aget_aset, hg c]
  by_cases hc : c = k
  · rw [if_pos hc, if_pos hc, if_neg (by omega)]
  · rw [if_neg hc, if_neg hc]; exact h c
theorem mOk.eq {l : List (Int × Int)} {f g : Int → Nat} (h : mOk l f) (hg : ∀ c, g c = f c) : mOk l g := fun c => by rw [hg c]; exact h c
theorem mOk.mem {l : List (Int × Int)} {f : Int → Nat} (h : mOk l f) (hn : (akeys l).Nodup) {a b : Int} : (a, b) ∈ l ↔ b = f a ∧ 0 < f a := by
  constructor
  · intro hm
    have := aget_of_mem hn hm
    rw [h a] at this
    split at this
    · cases this
    · injection this with this
      exact ⟨this.symm, by omega⟩
  · rintro ⟨rfl, hp⟩
    refine aget_mem ?_
    rw [h a, if_neg (by omega)]
def partC (R : Mat) (i : Nat) (x : List Int) (j : Nat) (c : Int) : Nat := cntM (R.take i) c + if c ∈ x.take j then 1 else 0
theorem partC_zero (R : Mat) (i : Nat) (x : List Int) (c : Int) : partC R i x 0 c = cntM (R.take i) c := by simp [partC]
theorem partC_full {R : Mat} {i : Nat} {x : List Int} (hx : R[i]? = some x) (c : Int) : cntM (R.take (i + 1)) c = partC R i x x.length c := by
  unfold partC cntM
  rw [List.take_length, List.take_add_one, hx, List.countP_append]
  by_cases h : c ∈ x <;> simp [h]
theorem partC_step (R : Mat) (i : Nat) {x : List Int} (hn : x.Nodup) {j : Nat} {k : Int} (hk : x[j]? = some k) (c : Int) : partC R i x (j + 1) c = if c = k then partC R i x j k + 1 else partC R i x j c := by
  have htk : x.take (j + 1) = x.take j ++ [k] := by rw [List.take_add_one, hk]; rfl
  have hkn : k ∉ x.take j := fun h => by
    obtain ⟨m, hm, he⟩ := List.getElem_of_mem h
    rw [List.length_take] at hm
    rw [List.getElem_take] at he
    have h1 : x[m]? = some k := by rw [List.getElem?_eq_getElem (by omega), he]
    have := (List.getElem?_inj (by omega) hn).1 (h1.trans hk.symm)
    omega
  unfold partC
  rw [htk]
  by_cases hc : c = k
  · subst hc
    rw [if_pos rfl, if_pos (List.mem_append_right _ (.head _)), if_neg hkn]
  · rw [if_neg hc]
    have : (c ∈ x.take j ++ [k]) ↔ c ∈ x.take j := by simp [hc]
    by_cases h : c ∈ x.take j
    · rw [if_pos (this.2 h), if_pos h]
    · rw [if_neg (fun h' => h (this.1 h')), if_neg h]
theorem cntM_le (R : Mat) (c : Int) : cntM R c ≤ R.length := List.countP_le_length
theorem partC_le (R : Mat) (i : Nat) (x : List Int) (j : Nat) (c : Int) : partC R i x j c ≤ R.length + 1 := by
  have := cntM_le (R.take i) c
  rw [List.length_take] at this
  unfold partC
  split <;> omega
/-- The best of what was handed out. -/
def bestD (R : Mat) (D : List (Int × Int)) (b : Int) : Prop := (b < 0 ∧ D = []) ∨ (0 ≤ b ∧ 0 < cntM R b ∧ ∀ p ∈ D, cntM R p.1 < cntM R b ∨ (cntM R p.1 = cntM R b ∧ b ≤ p.1))
theorem bestD_end {R : Mat} {l : List (Int × Int)} {D : List (Int × Int)} {b : Int} (h : bestD R D b) (hl : mOk l (cntM R)) (hn : (akeys l).Nodup) (hD : ∀ p ∈ l, p ∈ D) (hne : ∃ r ∈ R, r ≠ []) : IsBusy R b := by
  obtain ⟨r, hr, hre⟩ := hne
  obtain ⟨k, hk⟩ := List.exists_mem_of_ne_nil r hre
  have hp : 0 < cntM R k := cnt_pos.2 ⟨r, hr, hk⟩
  have hkD := hD _ ((hl.mem hn).2 ⟨rfl, hp⟩)
  rcases h with ⟨_, rfl⟩ | ⟨_, hb, hall⟩
  · cases hkD
  · refine ⟨hb, fun d => ?_⟩
    rcases Nat.eq_zero_or_pos (cntM R d) with h0 | h0
    · left; omega
    · exact hall _ (hD _ ((hl.mem hn).2 ⟨rfl, h0⟩))
theorem bestD_new {R : Mat} {D : List (Int × Int)} {b a v : Int} (h : bestD R D b) (ha : 0 ≤ a) (hp : 0 < cntM R a) (hc : b < 0 ∨ cntM R b < cntM R a ∨ (cntM R a = cntM R b ∧ a < b)) : bestD R (D ++ [(a, v)]) a := by
  refine .inr ⟨ha, hp, fun p hp' => ?_⟩
  rcases List.mem_append.1 hp' with hp' | hp'
  · rcases h with ⟨_, rfl⟩ | ⟨_, hb, hall⟩
    · cases hp'
    · have := hall p hp'; omega
  · obtain rfl := List.mem_singleton.1 hp'
    exact .inr ⟨rfl, Int.le_refl _⟩
theorem bestD_old {R : Mat} {D : List (Int × Int)} {b a v : Int} (h : bestD R D b) (hb : ¬ b < 0) (hc : ¬ cntM R b < cntM R a) (hc2 : ¬ (cntM R a = cntM R b ∧ a < b)) : bestD R (D ++ [(a, v)]) b := by
  rcases h with ⟨h0, _⟩ | ⟨h0, hbp, hall⟩
  · exact absurd h0 hb
  · refine .inr ⟨h0, hbp, fun p hp' => ?_⟩
    rcases List.mem_append.1 hp' with hp' | hp'
    · exact hall p hp'
    · obtain rfl := List.mem_singleton.1 hp'
      show cntM R a < cntM R b ∨ (cntM R a = cntM R b ∧ b ≤ a)
      omega
theorem lookup_to {P : Program} {t kt et : TypeId} {α β : Type} [DecidableEq α] {ka : α → Value} {vb : β → Value} {z : Value} {w : World} {kk : Value → World → Prop} {l : List (α × β)} {r : Nat} (hr : (mapR ka vb r l).ok w) (W : MapW P t kt et ka vb z) (a : α) {v : Value}
    (hv : ((aget l a).map vb).getD z = v) (h : kk v w) : lookupK P t (.map (some r)) (ka a) false w kk := lookup_at hr W a (by rw [hv]; exact h)
theorem ent190 : enters Try.prog 190 = true := by kernel_rfl
theorem c190 (n : Nat) (cols : Int) (R : Mat) (v1 : Value) (w : World) (hl : R.length ≤ 1000000000) (hlr : ∀ r ∈ R, r.length ≤ 1000000000) (hright : RightM n R) (h1 : MatAt w v1 R) :
    Fun Try.prog 190 [mv cols v1] w fun v w' => ∃ b : Int, v = .int .i64 b ∧ ((∃ r ∈ R, r ≠ []) → IsBusy R b) ∧ Same w w' := by
  refine fun_of_W (N := 61) Try.func190 ent190 rfl rfl rfl (by simp) ?_
  have H := Hp.start0 w
  obtain ⟨A, ca, va, rfl, ha, hra⟩ := h1.openM
  refine cut_rule (γ := Nat) _ rfl (fun g1 => [(1, .pointer (some ⟨g1, 0, none⟩))]) (fun g1 w' => Hp w (fun _ => False) w' [blk g1 91 (mc cols (.slice A R.length ca))] []) ?_ ?_
  · refine H.box 91 (mv _ _) (cs := mc _ _) rfl ?_
    clear H
    intro g1 w1 H
    exact ⟨g1, ⟨rfl, trivial⟩, H⟩
  clear H
  rintro g1 u w1 H
  replace H : Hp _ _ _ _ _ := H
  refine cut_rule (γ := Nat) _ rfl (fun r => [(3, .map (some r))]) (fun r w' => Hp w (fun _ => False) w' [mapR kaI kaI r [], blk g1 91 (mc cols (.slice A R.length ca))] []) ?_ ?_
  · refine H.makeMap kaI kaI ?_
    clear H
    intro r w4 H
    exact ⟨r, ⟨rfl, trivial⟩, H⟩
  clear H
  rintro r u w3 H
  replace H : Hp _ _ _ _ _ := H
  refine cut_rule (γ := Unit) _ rfl (fun _ => [(4, .int .i64 (-1))]) (fun _ w' => Hp w (fun _ => False) w' [mapR kaI kaI r [], blk g1 91 (mc cols (.slice A R.length ca))] []) ⟨(), ⟨rfl, trivial⟩, H⟩ ?_
  clear H
  rintro ⟨⟩ u w3 H
  replace H : Hp _ _ _ _ _ := H
  refine cut_rule (γ := List (Int × Int)) _ rfl (fun _ => []) (fun l w' => mOk l (cntM R) ∧ Hp w (fun _ => False) w' [mapR kaI kaI r l, blk g1 91 (mc cols (.slice A R.length ca))] []) ?_ ?_
  · refine fieldAddr_by (fa91_1 _) ?_
    refine H.load 1 rfl agg89 rfl ?_
    refine len_sl Try.underlying89 ?_
    refine loop_rule (γ := Nat × List (Int × Int)) _ rfl (fun (i, _) => [(15, .int .i64 (i : Int))])
      (fun (i, l) w' => (i ≤ R.length ∧ mOk l (cntM (R.take i))) ∧ Hp w (fun _ => False) w' [mapR kaI kaI r l, blk g1 91 (mc cols (.slice A R.length ca))] [])
      (fun (i, _) => R.length - i) (0, []) ⟨rfl, trivial⟩ ⟨⟨Nat.zero_le _, fun c => rfl⟩, H⟩ ?_
    clear H
    rintro ⟨i, l⟩ u w4 ⟨⟨hi, hlk⟩, H⟩
    replace H : Hp _ _ _ _ _ := H
    refine cond_dec (fun h7 => ?_) (fun h7 => ?_)
    · obtain ⟨x, hx⟩ : ∃ x, R[i]? = some x := ⟨_, List.getElem?_eq_getElem (by omega)⟩
      obtain ⟨g0, o0, rfl⟩ := ha.A (by omega)
      obtain ⟨Bx, cx, hget, hsx⟩ := hra i x hx
      have hxm := List.mem_of_getElem? hx
      have hxl := hlr x hxm
      have hxn := (hright.rise x hxm).nodup
      refine cut_rule (γ := List (Int × Int)) _ rfl (fun _ => []) (fun l w' => mOk l (cntM (R.take (i + 1))) ∧ Hp w (fun _ => False) w' [mapR kaI kaI r l, blk g1 91 (mc cols (.slice (some ⟨g0, o0, none⟩) R.length ca))] []) ?_ ?_
      · refine cut_rule (γ := Unit) _ rfl (fun _ => [(6, .slice Bx x.length cx)]) (fun _ w' => Hp w (fun _ => False) w' [mapR kaI kaI r l, blk g1 91 (mc cols (.slice (some ⟨g0, o0, none⟩) R.length ca))] []) ?_ ?_
        · refine idxAddr_sl Try.underlying89 (s := 1) size32 i rfl (by omega) (o' := o0 + i) (by omega) ?_
          refine H.loadSl (i := i) ha aggrow _ rfl hget ?_
          exact ⟨(), ⟨rfl, trivial⟩, H⟩
        clear H
        rintro ⟨⟩ u w6 H
        replace H : Hp _ _ _ _ _ := H
        refine len_sl Try.underlying32 ?_
        refine loop_rule (γ := Nat × List (Int × Int)) _ rfl (fun (j, _) => [(21, .int .i64 (j : Int))]) (fun (j, l) w' => (j ≤ x.length ∧ mOk l (partC R i x j)) ∧ Hp w (fun _ => False) w' [mapR kaI kaI r l, blk g1 91 (mc cols (.slice (some ⟨g0, o0, none⟩) R.length ca))] []) (fun (j, _) => x.length - j) (0, l) ⟨rfl, trivial⟩ ⟨⟨Nat.zero_le _, hlk.eq (partC_zero R i x)⟩, H⟩ ?_
        clear H hlk
        rintro ⟨j, l⟩ u w8 ⟨⟨hj, hlk⟩, H⟩
        replace H : Hp _ _ _ _ _ := H
        refine cond_dec (fun h8 => ?_) (fun h8 => ?_)
        · obtain ⟨k, hk⟩ : ∃ k, x[j]? = some k := ⟨_, List.getElem?_eq_getElem (by omega)⟩
          obtain ⟨g2, o2, rfl⟩ := hsx.A (by omega)
          have hgk : (intsI x)[j]? = some (.int .i64 k) := by rw [intsI, List.getElem?_map, hk]; rfl
          have hpl := partC_le R i x j k
          have hst := partC_step R i hxn hk
          refine idxAddr_sl Try.underlying32 (s := 1) size3 j rfl (by omega) (o' := o2 + j) (by omega) ?_
          refine H.loadSl (i := j) hsx agg3 _ rfl hgk ?_
          refine lookup_to (H.get 0 rfl) W253 k (hlk.get k) ?_
          have hwr : IntKind.i64.wrap (((partC R i x j k : Nat) : Int) + 1) = ((partC R i x j k + 1 : Nat) : Int) := by rw [wrap_i64_in (by omega) (by omega)]; rfl
          refine mapSet_by (congrArg (Value.int .i64) hwr) (H.mapSet 0 rfl W253 k ((partC R i x j k + 1 : Nat) : Int) ?_)
          clear H
          intro w9 H
          exact ⟨(j + 1, _), by show x.length - (j + 1) < x.length - j; omega, ⟨up (by omega), trivial⟩, ⟨by show j + 1 ≤ x.length; omega, hlk.add hst⟩, H⟩
        · have : j = x.length := by omega
          subst this
          exact ⟨l, trivial, hlk.eq (partC_full hx), H⟩
      · clear H hlk
        rintro l2 u w6 ⟨hlk, H⟩
        exact ⟨(i + 1, l2), by show R.length - (i + 1) < R.length - i; omega, ⟨up (by omega), trivial⟩, ⟨by show i + 1 ≤ R.length; omega, hlk⟩, H⟩
    · have : i = R.length := by omega
      subst this
      rw [List.take_length] at hlk
      exact ⟨l, trivial, hlk, H⟩
  clear H
  rintro l u w4 ⟨hlk, H⟩
  replace H : Hp _ _ _ _ _ := H
  have hnd := mapR_nodup (H.get 0 rfl) kaI_inj
  have hcl := cntM_le R
  refine cut_rule (γ := Int) _ rfl (fun b => [(4, .int .i64 b)]) (fun b w' => ((∃ r ∈ R, r ≠ []) → IsBusy R b) ∧ Same w w') ?_ ?_
  · refine H.rangeMap (k0 := 3) (e0 := 3) Try.underlying253 ?_
    clear H
    intro r2 w5 H
    refine loop_rule (γ := Int × List (Int × Int)) _ rfl (fun (b, _) => [(4, .int .i64 b)])
      (fun (b, D) w' => (bestD R D b ∧ D.Nodup ∧ ∀ p ∈ D, p ∈ l) ∧ Hp w (fun _ => False) w' [rngR kaI kaI r r2 l D, blk g1 91 (mc cols (.slice A R.length ca))] [])
      (fun (_, D) => l.length - D.length) (-1, []) ⟨rfl, trivial⟩ ⟨⟨.inl ⟨by decide, rfl⟩, List.nodup_nil, by simp⟩, H⟩ ?_
    clear H
    rintro ⟨b, D⟩ u w6 ⟨⟨hb, hDn, hDl⟩, H⟩
    replace H : Hp _ _ _ _ _ := H
    refine H.nextMap 0 rfl kaI_inj kaI_inj (fun hall => ?_) (fun a v w7 hm hnm H2 => ?_)
    · refine cond_no rfl ?_
      exact ⟨b, ⟨rfl, trivial⟩, fun hne => bestD_end hb hlk hnd hall hne, H.keeps⟩
    · clear H
      have H := H2
      clear H2
      obtain ⟨rfl, hp⟩ := (hlk.mem hnd).1 hm
      refine cond_yes rfl ?_
      have ha0 : 0 ≤ a := by obtain ⟨r', hr', hk⟩ := cnt_pos.1 hp; exact (hright.rng r' hr' a hk).1
      have hlen : D.length < l.length := by
        have := len_subG (a := D ++ [(a, ((cntM R a : Nat) : Int))]) (b := l) (by
          rw [List.nodup_append]
          refine ⟨hDn, by simp, fun x hx y hy => ?_⟩
          obtain rfl := List.mem_singleton.1 hy
          exact fun e => hnm (e ▸ hx)) (fun k hk => by
          rcases List.mem_append.1 hk with hk | hk
          · exact hDl k hk
          · obtain rfl := List.mem_singleton.1 hk
            exact hm)
        simp at this
        omega
      have hnext : (D ++ [(a, ((cntM R a : Nat) : Int))]).Nodup ∧ (∀ p ∈ D ++ [(a, ((cntM R a : Nat) : Int))], p ∈ l) := by
        refine ⟨?_, fun k hk => ?_⟩
        · rw [List.nodup_append]
          refine ⟨hDn, by simp, fun x hx y hy => ?_⟩
          obtain rfl := List.mem_singleton.1 hy
          exact fun e => hnm (e ▸ hx)
        · rcases List.mem_append.1 hk with hk | hk
          · exact hDl k hk
          · obtain rfl := List.mem_singleton.1 hk
            exact hm
      refine cut_rule (γ := Unit) _ rfl (fun _ => [(9, .int .i64 a), (10, .int .i64 ((cntM R a : Nat) : Int))]) (fun _ w' => Hp.cl H w') ?_ ?_
      · refine entryMap_at (H.get 0 rfl) ?_
        exact ⟨(), ⟨rfl, rfl, trivial⟩, H⟩
      rintro ⟨⟩ u w8 H1
      replace H : Hp _ _ _ _ _ := H1
      clear H1
      have hca := hcl a
      have hcb := hcl b
      refine cond_dec (fun h2 => ?_) (fun h2 => ?_)
      · refine cond_yes (decide_eq_true (by assumption)) ?_
        iterate 4 refine cond_yes (decide_eq_true (by assumption)) ?_
        iterate 9 refine cond_yes rfl ?_
        exact ⟨(a, D ++ [(a, ((cntM R a : Nat) : Int))]), by show l.length - (D ++ [(a, ((cntM R a : Nat) : Int))]).length < l.length - D.length; simp; omega, ⟨rfl, trivial⟩, ⟨bestD_new hb ha0 hp (by omega), hnext⟩, H⟩
      · refine cond_no (decide_eq_false (by assumption)) ?_
        iterate 2 refine cond_no (decide_eq_false (by assumption)) ?_
        refine lookup_to (rng_map (H.get 0 rfl)) W253 b (hlk.get b) ?_
        iterate 2 refine cond_no (decide_eq_false (by assumption)) ?_
        refine cond_dec (fun h30 => ?_) (fun h30 => ?_)
        · refine cond_yes (decide_eq_true (by assumption)) ?_
          iterate 6 refine cond_yes (decide_eq_true (by assumption)) ?_
          refine cond_yes rfl ?_
          exact ⟨(a, D ++ [(a, ((cntM R a : Nat) : Int))]), by show l.length - (D ++ [(a, ((cntM R a : Nat) : Int))]).length < l.length - D.length; simp; omega, ⟨rfl, trivial⟩, ⟨bestD_new hb ha0 hp (by omega), hnext⟩, H⟩
        · refine cond_no (decide_eq_false (by assumption)) ?_
          iterate 2 refine cond_no (decide_eq_false (by assumption)) ?_
          refine lookup_to (rng_map (H.get 0 rfl)) W253 b (hlk.get b) ?_
          iterate 2 refine cond_no (decide_eq_false (by assumption)) ?_
          refine cond_beq (fun h46 => ?_) (fun h46 => ?_)
          · refine cond_yes (beq_iff_eq.2 (by assumption)) ?_
            refine cond_yes (beq_iff_eq.2 (by assumption)) ?_
            refine cond_no (decide_eq_false (by assumption)) ?_
            refine cond_yes (beq_iff_eq.2 (by assumption)) ?_
            refine cond_no (decide_eq_false (by assumption)) ?_
            refine cond_dec (fun h52 => ?_) (fun h52 => ?_)
            · exact ⟨(a, D ++ [(a, ((cntM R a : Nat) : Int))]), by show l.length - (D ++ [(a, ((cntM R a : Nat) : Int))]).length < l.length - D.length; simp; omega, ⟨rfl, trivial⟩, ⟨bestD_new hb ha0 hp (by omega), hnext⟩, H⟩
            · exact ⟨(b, D ++ [(a, ((cntM R a : Nat) : Int))]), by show l.length - (D ++ [(a, ((cntM R a : Nat) : Int))]).length < l.length - D.length; simp; omega, ⟨rfl, trivial⟩, ⟨bestD_old hb (by omega) (by omega) (by omega), hnext⟩, H⟩
          · refine cond_no (beq_eq_false_iff_ne.2 (by assumption)) ?_
            refine cond_no (beq_eq_false_iff_ne.2 (by assumption)) ?_
            refine cond_no (decide_eq_false (by assumption)) ?_
            refine cond_no (beq_eq_false_iff_ne.2 (by assumption)) ?_
            refine cond_no (decide_eq_false (by assumption)) ?_
            refine cond_no rfl ?_
            exact ⟨(b, D ++ [(a, ((cntM R a : Nat) : Int))]), by show l.length - (D ++ [(a, ((cntM R a : Nat) : Int))]).length < l.length - D.length; simp; omega, ⟨rfl, trivial⟩, ⟨bestD_old hb (by omega) (by omega) (by omega), hnext⟩, H⟩
  · clear H
    rintro b u w5 ⟨hb, hk⟩
    exact ⟨b, rfl, hb, hk⟩
end Go.Proofs.Ytjebpngdinbckaa
end

section
/- The search: Greedy. -/
namespace Go.Proofs.Ytjebpngdinbckaa
open Go.Dk
attribute [local irreducible] IntKind.wrap

/-- What Greedy answers. -/
def GreedyR (cols : Int) (R : Mat) (G : List Int) (e : Int) : Prop :=
  (rightB cols R = false ∧ G = [] ∧ e = 1) ∨ (rightB cols R = true ∧ bareB R = true ∧ G = [] ∧ e = 7) ∨ (rightB cols R = true ∧ bareB R = false ∧ e = 0 ∧ ∃ l, Greedy R l ∧ G = risen cols.toNat l)
theorem some_row {R : Mat} (h : [] ∉ R) (hp : 0 < R.length) : ∃ r ∈ R, r ≠ [] := by
  cases R with
  | nil => simp at hp
  | cons r R => exact ⟨r, .head _, fun e => h (by rw [e]; exact .head _)⟩
theorem without_bare {R : Mat} {c : Int} (h : [] ∉ R) : [] ∉ withoutM R c := fun hm => h (List.mem_filter.1 hm).1
theorem ent121 : enters Try.prog 121 = true := by kernel_rfl
theorem c121 (cols : Int) (R : Mat) (v1 : Value) (S : Nat → Prop) (w : World) (hl : R.length ≤ 100000000) (hlr : ∀ r ∈ R, r.length ≤ 1000000000) (h1 : matOk S v1 R w) (hS : ∀ g, S g → g < w.heap.size) :
    Fun Try.prog 121 [mv cols v1] w fun v w' => ∃ B d G e, v = .tuple #[.slice B G.length d, .int .i64 e] ∧ GreedyR cols R G e ∧ NewR w w' (own 3 1 (.slice B G.length d) G.length (intsI G)) := by
  refine fun_of_W (N := 33) Try.func121 ent121 rfl rfl rfl (by simp) ?_
  have H := startM h1 hS
  have h1' : MatAt w v1 R := MatR.mono h1 hS
  obtain ⟨A, ca, hv⟩ := h1.form
  subst hv
  refine cut_rule (γ := Nat) _ rfl (fun g1 => [(1, .pointer (some ⟨g1, 0, none⟩))]) (fun g1 w' => Hp w (fun _ => False) w' [blk g1 91 (mc cols (.slice A R.length ca))] [MatR S (.slice A R.length ca) R]) ?_ ?_
  · refine H.box 91 (mv _ _) (cs := mc _ _) rfl ?_
    clear H
    intro g1 w1 H
    exact ⟨g1, ⟨rfl, trivial⟩, H⟩
  clear H
  rintro g1 u w1 H
  replace H : Hp _ _ _ _ _ := H
  refine cut_rule (γ := Unit) _ rfl (fun _ => []) (fun _ w' => (rightB cols R = true ∧ bareB R = false) ∧ Hp w (fun _ => False) w' [blk g1 91 (mc cols (.slice A R.length ca))] [MatR S (.slice A R.length ca) R]) ?_ ?_
  · refine H.loadAll 0 rfl agg91 size91 ?_
    refine call_fn (c171 cols R _ _ (by omega) hlr (h1'.same H.keeps)) ?_
    rintro _ w3 ⟨rfl, hk⟩
    replace H := H.same hk
    clear hk
    refine cond_split (fun hr => ?_) (fun hr => ?_)
    · have hno : rightB cols R = false := by simpa using hr
      exact ⟨none, 0, [], 1, rfl, .inl ⟨hno, rfl, rfl⟩, ((H.ownNil 3 1).only).out⟩
    · have hr' : rightB cols R = true := by simpa using hr
      refine H.loadAll 0 rfl agg91 size91 ?_
      refine call_fn (c189 cols R _ _ (by omega) (h1'.same H.keeps)) ?_
      rintro _ w4 ⟨rfl, hk⟩
      replace H := H.same hk
      clear hk
      refine cond_split (fun hb => ?_) (fun hb => ?_)
      · have hb' : bareB R = true := by simpa using hb
        exact ⟨none, 0, [], 7, rfl, .inr (.inl ⟨hr', hb', rfl, rfl⟩), ((H.ownNil 3 1).only).out⟩
      · have hb' : bareB R = false := by simpa using hb
        exact ⟨(), trivial, ⟨hr', hb'⟩, H⟩
  clear H
  rintro ⟨⟩ u w2 ⟨⟨hr', hb'⟩, H⟩
  replace H : Hp _ _ _ _ _ := H
  have hright := rightB_iff.1 hr'
  obtain ⟨n, rfl⟩ : ∃ n : Nat, cols = n := ⟨cols.toNat, by have := hright.ge; omega⟩
  have hn4 : n ≤ 4000 := by have := hright.le; omega
  have hbare : [] ∉ R := fun h => by rw [bareB_iff.2 h] at hb'; cases hb'
  refine cut_rule (γ := Unit) _ rfl (fun _ => [(4, .slice none 0 0)]) (fun _ w' => Hp.cl H w') ⟨(), ⟨rfl, trivial⟩, H⟩ ?_
  rintro ⟨⟩ u w2 H1
  replace H : Hp _ _ _ _ _ := H1
  clear H1
  refine cut_rule (γ := Nat) _ rfl (fun g5 => [(5, .pointer (some ⟨g5, 0, none⟩))]) (fun g5 w' => Hp w (fun _ => False) w' [blk g5 91 (mc n (.slice A R.length ca)), blk g1 91 (mc n (.slice A R.length ca))] [MatR S (.slice A R.length ca) R]) ?_ ?_
  · refine H.loadAll 0 rfl agg91 size91 ?_
    refine H.alloc 91 zero91 rfl ?_
    clear H
    intro g5 w3 H
    refine H.storeAll 0 rfl size91 rfl (fun v hv => mc_one v hv) ?_
    clear H
    intro w4 H
    exact ⟨g5, ⟨rfl, trivial⟩, H⟩
  clear H
  rintro g5 u w3 H
  replace H : Hp _ _ _ _ _ := H
  replace H := H.ownNil 3 1
  refine cut_rule (γ := Option Addr × Nat × List Int) _ rfl (fun (B, d, l) => [(4, .slice B l.length d)]) (fun (B, d, l) w' => (Greedy R l ∧ l.length ≤ R.length) ∧ Hp w (fun _ => False) w' [own 3 1 (.slice B l.length d) l.length (intsI l), blk g1 91 (mc n (.slice A R.length ca))] []) ?_ ?_
  · refine loop_rule (γ := Option Addr × Nat × List Int × Mat × Value × (Nat → Prop)) _ rfl (fun (B, d, l, _) => [(4, .slice B l.length d)])
      (fun (B, d, l, Q, v, S') w' => ((∀ rest, Greedy Q rest → Greedy R (l ++ rest)) ∧ RightM n Q ∧ [] ∉ Q ∧ l.length + Q.length ≤ R.length) ∧ Hp w (fun _ => False) w' [own 3 1 (.slice B l.length d) l.length (intsI l), blk g5 91 (mc n v), blk g1 91 (mc n (.slice A R.length ca))] [MatR S' v Q])
      (fun (_, _, _, Q, _) => Q.length) (none, 0, [], R, .slice A R.length ca, S) ⟨rfl, trivial⟩ ⟨⟨fun rest h => h, hright, hbare, by simp⟩, H⟩ ?_
    clear H
    rintro ⟨B, d, l, Q, v, S'⟩ u w4 ⟨⟨hg, hQr, hQb, hQl⟩, H⟩
    replace H : Hp _ _ _ _ _ := H
    obtain ⟨A', c', hv'⟩ := (H.ro 0 rfl).form
    subst hv'
    have hQlr : ∀ r ∈ Q, r.length ≤ 1000000000 := fun r hr => by have := row_len hQr hr; omega
    refine fieldAddr_by (fa91_1 _) ?_
    refine H.load 1 rfl agg89 rfl ?_
    refine len_sl Try.underlying89 ?_
    refine cond_dec (fun h7 => ?_) (fun h7 => ?_)
    · refine cut_rule (γ := Int) _ rfl (fun c => [(6, .int .i64 c)]) (fun c w' => IsBusy Q c ∧ Hp w (fun _ => False) w' [own 3 1 (.slice B l.length d) l.length (intsI l), blk g5 91 (mc n (.slice A' Q.length c')), blk g1 91 (mc n (.slice A R.length ca))] [MatR S' (.slice A' Q.length c') Q]) ?_ ?_
      · refine H.loadAll 1 rfl agg91 size91 ?_
        refine call_fn (c190 n n Q _ _ (by omega) hQlr hQr (MatR.mono (H.ro 0 rfl) (H.rlt _ (.head _)))) ?_
        rintro _ w5 ⟨c, rfl, hb, hk⟩
        replace H := H.same hk
        clear hk
        exact ⟨c, ⟨rfl, trivial⟩, hb (some_row hQb (by omega)), H⟩
      clear H
      rintro c u w5 ⟨hbusy, H⟩
      replace H : Hp _ _ _ _ _ := H
      have hwl := without_lt (busy_in hbusy)
      refine H.drawC [blk g5 91 (mc n (.slice A' Q.length c'))] (fun u H => (H.front 1 rfl).only) fol (by kernel_rfl) ?_
      clear H
      intro w6 H
      refine H.buildOne T32 rfl ?_
      clear H
      intro g7 w7 H
      refine ⟨.inl ((H.front 2 rfl).only), ?_⟩
      refine H.appendOne 0 T32 rfl rfl (by omega) (by omega) ?_
      clear H
      intro B2 d2 w8 H
      refine ⟨.inl ((H.front 1 rfl).only), ?_⟩
      refine quiet _ (fun w H => H.loadAll 0 rfl agg91 size91 ⟨rfl, rfl⟩) ?_
      refine call_fn (c191 n Q c _ S' _ (by omega) hQlr (H.ro 0 rfl) (H.rlt _ (.head _))) ?_
      rintro _ w9 ⟨v', rfl, hn⟩
      obtain ⟨S2, H2, hS2⟩ := H.addM (.head _) hn
      clear H
      have H := H2
      clear H2
      obtain ⟨A2, c2, hv2⟩ := (H.ro 0 rfl).form
      subst hv2
      refine ⟨.inl ((H.front 1 rfl).only).forgetRO, ?_⟩
      refine H.storeAll 1 rfl size91 rfl (fun v hv => mc_one v hv) ?_
      clear H
      intro w10 H
      refine ⟨.inr rfl, ?_⟩
      have e1 : l.length + 1 = (l ++ [c]).length := by simp
      have e2 : intsI l ++ [Value.int .i64 c] = intsI (l ++ [c]) := by rw [intsI_snoc]
      rw [e1, e2] at H
      refine ⟨(B2, d2, l ++ [c], withoutM Q c, _, S2), hwl, ⟨by rw [e1]; rfl, trivial⟩, ⟨fun rest hr => ?_, without_right hQr c, without_bare hQb, by rw [← e1]; omega⟩, H.onlyRO⟩
      rw [List.append_assoc]
      exact hg _ (.cons hbusy hr)
    · obtain rfl : Q = [] := List.length_eq_zero_iff.1 (by omega)
      have := hg [] .nil
      rw [List.append_nil] at this
      exact ⟨(B, d, l), ⟨rfl, trivial⟩, ⟨this, by simpa using hQl⟩, ((H.front 1 rfl).forget).onlyRO.weakenRO (by simp)⟩
  · clear H
    rintro ⟨B, d, l⟩ u w4 ⟨⟨hg, hll⟩, H⟩
    replace H : Hp _ _ _ _ _ := H
    refine fieldAddr_by (fa91_0 _) ?_
    refine H.load 1 rfl agg3 rfl ?_
    refine call_fn (c192 n l B d _ (by omega) (by omega) (own_Sl (H.get 0 rfl))) ?_
    rintro _ w5 ⟨B2, d2, rfl, hn⟩
    replace H := H.addNew hn
    exact ⟨B2, d2, risen n l, 0, rfl, .inr (.inr ⟨hr', hb', rfl, l, hg, by rw [Int.toNat_natCast]⟩), (H.only).out⟩
end Go.Proofs.Ytjebpngdinbckaa
end

section
/- The search: the stack of Fewest. -/
namespace Go.Dk
variable {P : Program} {w0 w : World} {F : Nat → Prop} {L M : List Res} {kk : Value → World → Prop}
/-- A slice of one's own, cut short. -/
theorem Hp.ownTake (H : Hp w0 F w L M) (n : Nat) {t e : TypeId} {z : Value} {sz b l c i : Nat} {A : Option Addr} {xs : List Value} {kd : IntKind} {j : Int} (T : SlT P t e z sz b)
    (hn : L[n]? = some (own e sz (.slice A l c) l xs)) (hj : j = (i : Int)) (hi : i ≤ l) (h0 : 0 < l)
    (h : ∀ A' c', Hp w0 F w (L.set n (own e sz (.slice A' i c') i (xs.take (i * sz)))) M → kk (.slice A' i c') w) : sliceK P t (.slice A l c) none (some (.int kd j)) none w kk := by
  subst hj
  obtain ⟨hlen, hcase⟩ := H.get n hn
  rcases hcase with ⟨hv, hz⟩ | ⟨g, cap, cur, hv, hb, hg, hlc, hm, hcs, hx⟩
  · omega
  injection hv with e1 _ e2
  subst e1; subst e2
  have hmul := Nat.mul_le_mul_right sz hi
  have hsl : sliced (some ⟨g, 0, none⟩) 0 i c sz = .slice (some ⟨g, 0, none⟩) i c := by
    unfold sliced
    rw [if_neg (by omega)]
    simp [addr_add]
  have hown : (own e sz (.slice (some ⟨g, 0, none⟩) i c) i (xs.take (i * sz))).ok w := by
    refine ⟨by rw [List.length_take, hlen]; omega, .inr ⟨g, c, cur, rfl, hb, hg, by omega, hm, hcs, ?_⟩⟩
    rw [← hx, List.take_take, Nat.min_eq_left hmul]
  unfold sliceK
  refine ⟨sliced (some ⟨g, 0, none⟩) 0 i c sz, w, ?_, ?_⟩
  · rw [run_sliceAt_slice w t _ _ _ _ (elemOf T.und), run_slice_h w t _ l c (elemOf T.und) kd (i : Int) (by omega) (by omega), elemIs T.und, run_sizeOf T.size]
    rfl
  · rw [hsl]
    refine h _ _ (H.turn n hn _ (Keeps.refl _ _) hown fun x hx => ?_)
    exact ⟨(World.ownsRow.lt (w := w) (base := 0) hown x hx).2, .inl hx⟩
end Go.Dk
namespace Go.Proofs.Ytjebpngdinbckaa
open Go.Dk
attribute [local irreducible] IntKind.wrap
theorem size226 : sizeT Try.prog 226 = some 3 := by kernel_rfl
theorem agg226 : aggT Try.prog 226 = some true := by kernel_rfl
theorem zero226 : zeroT Try.prog 226 = some (.agg #[.int .i64 0, .slice none 0 0, .slice none 0 0]) := by kernel_rfl
theorem agg227 : aggT Try.prog 227 = some false := by kernel_rfl
theorem fa226_0 (g : Nat) (w : World) : (Instr.fieldAt 226 (.pointer (some ⟨g, 0, none⟩)) 0).run Try.prog w = .ok (.pointer (some ⟨g, 0, none⟩)) w := by kernel_rfl
theorem fa226_1 (g : Nat) (w : World) : (Instr.fieldAt 226 (.pointer (some ⟨g, 0, none⟩)) 1).run Try.prog w = .ok (.pointer (some ⟨g, 2, none⟩)) w := by kernel_rfl
theorem T227 : SlT Try.prog 227 226 (.agg #[.int .i64 0, .slice none 0 0, .slice none 0 0]) 3 56 := ⟨Try.underlying227, by kernel_rfl, rfl, by decide⟩
/-- An entry of the stack as cells. -/
def encT (n : Int) (x : Value × Value) : List Value := [.int .i64 n, x.1, x.2]
theorem encT_len (n : Int) (x : Value × Value) : (encT n x).length = 3 := rfl
theorem build226 {a : Int} {A B : Option Addr} {l c m d : Nat} {w : World} {kk : Value → World → Prop} (h : kk (.agg (encT a (.slice A l c, .slice B m d)).toArray) w) : buildK Try.prog 226 [(0, mv a (.slice A l c)), (1, .slice B m d)] w kk := build_by (fun w => by kernel_rfl) h
theorem max_by {a : Nat} {ty : TypeId} {cst : Array Bool} {w : World} {kk : Value → World → Prop} (h : kk (.int .i64 (a : Int)) w) : builtinK Try.prog .max #[3, 3] ty cst [.int .i64 0, .int .i64 (a : Int)] w kk := by
  unfold builtinK
  refine ⟨_, w, ?_, h⟩
  show (do pure (.value (← Builtin.max_ #[3, 3] ty #[.int .i64 0, .int .i64 (a : Int)])) : Sem Next).run Try.prog w = _
  rw [Sem.run_bind, run_max_int2]
  have : (if (a : Int) > 0 then (a : Int) else 0) = a := by split <;> omega
  rw [this]
  rfl
def stkOk (S : Nat → Prop) (w : World) (ts : List (Value × Value)) (st : Stk) : Prop := ts.length = st.length ∧ ∀ (j : Nat) (a : Value × Value) (x : Mat × List Int), ts[j]? = some a → st[j]? = some x →
  matOk S a.1 x.1 w ∧ ∃ B c, a.2 = .slice B x.2.length c ∧ (sl S (.slice B x.2.length c) 1 x.2.length (intsI x.2)).ok w
theorem stkOk.stable {S : Nat → Prop} {w w' : World} {ts : List (Value × Value)} {st : Stk} (h : stkOk S w ts st) (hS : ∀ g, S g → w'.heap[g]? = w.heap[g]?) : stkOk S w' ts st :=
  ⟨h.1, fun j a x ha hx => by
    obtain ⟨hm, B, c, he, hs⟩ := h.2 j a x ha hx
    exact ⟨(MatR S a.1 x.1).stable _ _ hS hm, B, c, he, (sl S _ 1 _ _).stable _ _ hS hs⟩⟩
theorem stkOk.mono {S S' : Nat → Prop} {w : World} {ts : List (Value × Value)} {st : Stk} (h : stkOk S w ts st) (hS : ∀ g, S g → S' g) : stkOk S' w ts st :=
  ⟨h.1, fun j a x ha hx => by
    obtain ⟨hm, B, c, he, hs⟩ := h.2 j a x ha hx
    exact ⟨MatR.mono hm hS, B, c, he, sl.mono hs hS⟩⟩
theorem stkOk.nil (S : Nat → Prop) (w : World) : stkOk S w [] [] := ⟨rfl, fun j a x h => by simp at h⟩
theorem stkOk.snoc {S : Nat → Prop} {w : World} {ts : List (Value × Value)} {st : Stk} (h : stkOk S w ts st) {a : Value × Value} {x : Mat × List Int} (hm : matOk S a.1 x.1 w) {B : Option Addr} {c : Nat} (he : a.2 = .slice B x.2.length c) (hs : (sl S (.slice B x.2.length c) 1 x.2.length (intsI x.2)).ok w) : stkOk S w (ts ++ [a]) (st ++ [x]) := by
  refine ⟨by simp [h.1], fun j b y hb hy => ?_⟩
  by_cases hj : j < ts.length
  · rw [List.getElem?_append_left hj] at hb
    rw [List.getElem?_append_left (by rw [← h.1]; exact hj)] at hy
    exact h.2 j b y hb hy
  · have hlt := h.1
    rw [List.getElem?_append_right (by omega)] at hb hy
    have hj0 : j - ts.length = 0 := by have := (List.getElem?_eq_some_iff.1 hb).1; simp at this; omega
    rw [← hlt, hj0] at hy
    rw [hj0] at hb
    simp at hb hy
    subst hb; subst hy
    exact ⟨hm, B, c, he, hs⟩
theorem stkOk.pop {S : Nat → Prop} {w : World} {ts : List (Value × Value)} {st : Stk} {a : Value × Value} {x : Mat × List Int} (h : stkOk S w (ts ++ [a]) (st ++ [x])) :
    stkOk S w ts st ∧ matOk S a.1 x.1 w ∧ ∃ B c, a.2 = .slice B x.2.length c ∧ (sl S (.slice B x.2.length c) 1 x.2.length (intsI x.2)).ok w := by
  have hl : ts.length = st.length := by have := h.1; simpa using this
  refine ⟨⟨hl, fun j b y hb hy => h.2 j b y ?_ ?_⟩, h.2 ts.length a x (by simp) (by rw [hl]; simp)⟩
  · rw [List.getElem?_append_left (List.getElem?_eq_some_iff.1 hb).1]; exact hb
  · rw [List.getElem?_append_left (List.getElem?_eq_some_iff.1 hy).1]; exact hy
def stkR (S : Nat → Prop) (ts : List (Value × Value)) (st : Stk) : Res := ⟨S, fun w => stkOk S w ts st, fun _ _ h hok => hok.stable h⟩
/-- All that is read. -/
def allF (M : List Res) (g : Nat) : Prop := ∃ s ∈ M, s.foot g
theorem _root_.Go.Dk.Hp.addAll {w0 w : World} {F : Nat → Prop} {L M : List Res} (H : Hp w0 F w L M) (r : Res) (hf : ∀ g, r.foot g → allF M g) (hr : r.ok w) : Hp w0 F w L (r :: M) :=
  H.addRO (Keeps.refl _ _) r hr fun g hg => by
    obtain ⟨s, hs, hg'⟩ := hf g hg
    exact ⟨H.rlt s hs g hg', .inr ⟨s, hs, hg'⟩⟩
end Go.Proofs.Ytjebpngdinbckaa
end

section
/- The search: the reference's Bound, Bare and many. -/
namespace Go.Proofs.Ytjebpngdinbckaa
open Go.Dk
attribute [local irreducible] IntKind.wrap

theorem ent123 : enters Try.prog 123 = true := by kernel_rfl
theorem c123 (R : Mat) (v1 : Value) (w : World) (hl : R.length ≤ 1000000000) (h1 : MatAt w v1 R) :
    Fun Try.prog 123 [v1] w fun v w' => v = .bool (bareB R) ∧ Same w w' := by
  refine fun_of_W (N := 16) Try.func123 ent123 rfl rfl rfl (by simp) ?_
  have H := Hp.start0 w
  obtain ⟨A, ca, va, rfl, ha, hra⟩ := h1.openM
  refine cut_rule (γ := Unit) _ rfl (fun _ => []) (fun _ w' => Hp w (fun _ => False) w' [] []) ⟨(), trivial, H⟩ ?_
  clear H
  rintro ⟨⟩ u w0 H
  replace H : Hp _ _ _ _ _ := H
  refine cut_rule (γ := Unit) _ rfl (fun _ => []) (fun _ w' => bareB R = false ∧ Hp w (fun _ => False) w' [] []) ?_ ?_
  · refine loop_rule (γ := Nat) _ rfl (fun i => [(3, .int .i64 (i : Int))]) (fun i w' => (i ≤ R.length ∧ bareB (R.take i) = false) ∧ Hp w (fun _ => False) w' [] []) (fun i => R.length - i) 0 ⟨rfl, trivial⟩ ⟨⟨Nat.zero_le _, rfl⟩, H⟩ ?_
    clear H
    rintro i u w5 ⟨⟨hi, hno⟩, H⟩
    replace H : Hp _ _ _ _ _ := H
    refine len_sl Try.underlying89 ?_
    refine cond_dec (fun h7 => ?_) (fun h7 => ?_)
    · obtain ⟨x, hx⟩ : ∃ x, R[i]? = some x := ⟨_, List.getElem?_eq_getElem (by omega)⟩
      obtain ⟨g0, o0, rfl⟩ := ha.A (by omega)
      obtain ⟨Bx, cx, hget, hsx⟩ := hra i x hx
      refine cut_rule (γ := Unit) _ rfl (fun _ => []) (fun _ w' => bareB (R.take (i + 1)) = false ∧ Hp w (fun _ => False) w' [] []) ?_ ?_
      · refine idxAddr_sl Try.underlying89 (s := 1) size32 i rfl (by omega) (o' := o0 + i) (by omega) ?_
        refine H.loadSl (i := i) ha aggrow _ rfl hget ?_
        refine len_sl Try.underlying32 ?_
        refine cond_beq (fun h8 => ?_) (fun h8 => ?_)
        · obtain rfl : x = [] := List.length_eq_zero_iff.1 (by omega)
          rw [bare_at hx]
          exact ⟨rfl, H.keeps⟩
        · exact ⟨(), trivial, bare_snoc hx hno (fun e => h8 (by rw [e]; rfl)), H⟩
      · clear H
        rintro ⟨⟩ u w6 ⟨hno, H⟩
        exact ⟨i + 1, by show R.length - (i + 1) < R.length - i; omega, ⟨up (by omega), trivial⟩, ⟨by show i + 1 ≤ R.length; omega, hno⟩, H⟩
    · have : i = R.length := by omega
      subst this
      rw [List.take_length] at hno
      exact ⟨(), trivial, hno, H⟩
  · clear H
    rintro ⟨⟩ u w6 ⟨hno, H⟩
    replace H : Hp _ _ _ _ _ := H
    rw [hno]
    exact ⟨rfl, H.keeps⟩
theorem cntM_snoc {R : Mat} {i : Nat} {x : List Int} (hx : R[i]? = some x) (c : Int) : cntM (R.take (i + 1)) c = cntM (R.take i) c + if c ∈ x then 1 else 0 := by
  unfold cntM
  rw [List.take_add_one, hx, List.countP_append]
  by_cases h : c ∈ x <;> simp [h]
theorem ent193 : enters Try.prog 193 = true := by kernel_rfl
theorem c193 (R : Mat) (v1 : Value) (c : Int) (w : World) (hl : R.length ≤ 1000000000) (hlr : ∀ r ∈ R, r.length ≤ 1000000000) (h1 : MatAt w v1 R) :
    Fun Try.prog 193 [v1, .int .i64 c] w fun v w' => v = .int .i64 ((cntM R c : Nat) : Int) ∧ Same w w' := by
  refine fun_of_W (N := 22) Try.func193 ent193 rfl rfl rfl (by simp) ?_
  have H := Hp.start0 w
  obtain ⟨A, ca, va, rfl, ha, hra⟩ := h1.openM
  refine cut_rule (γ := Unit) _ rfl (fun _ => []) (fun _ w' => Hp w (fun _ => False) w' [] []) ⟨(), trivial, H⟩ ?_
  clear H
  rintro ⟨⟩ u w0 H
  replace H : Hp _ _ _ _ _ := H
  refine cut_rule (γ := Unit) _ rfl (fun _ => [(5, .int .i64 0)]) (fun _ w' => Hp w (fun _ => False) w' [] []) ⟨(), ⟨rfl, trivial⟩, H⟩ ?_
  clear H
  rintro ⟨⟩ u w0 H
  replace H : Hp _ _ _ _ _ := H
  refine cut_rule (γ := Unit) _ rfl (fun _ => [(5, .int .i64 ((cntM R c : Nat) : Int))]) (fun _ w' => Hp w (fun _ => False) w' [] []) ?_ ?_
  · refine loop_rule (γ := Nat) _ rfl (fun i => [(6, .int .i64 (i : Int)), (5, .int .i64 ((cntM (R.take i) c : Nat) : Int))]) (fun i w' => i ≤ R.length ∧ Hp w (fun _ => False) w' [] []) (fun i => R.length - i) 0 ⟨rfl, rfl, trivial⟩ ⟨Nat.zero_le _, H⟩ ?_
    clear H
    rintro i u w5 ⟨hi, H⟩
    replace H : Hp _ _ _ _ _ := H
    refine len_sl Try.underlying89 ?_
    refine cond_dec (fun h7 => ?_) (fun h7 => ?_)
    · obtain ⟨x, hx⟩ : ∃ x, R[i]? = some x := ⟨_, List.getElem?_eq_getElem (by omega)⟩
      obtain ⟨g0, o0, rfl⟩ := ha.A (by omega)
      obtain ⟨Bx, cx, hget, hsx⟩ := hra i x hx
      have hxl := hlr x (List.mem_of_getElem? hx)
      have hsn := cntM_snoc hx c
      have hcl := cntM_le (R.take i) c
      rw [List.length_take] at hcl
      refine cut_rule (γ := Unit) _ rfl (fun _ => [(5, .int .i64 ((cntM (R.take (i + 1)) c : Nat) : Int))]) (fun _ w' => Hp w (fun _ => False) w' [] []) ?_ ?_
      · refine idxAddr_sl Try.underlying89 (s := 1) size32 i rfl (by omega) (o' := o0 + i) (by omega) ?_
        refine H.loadSl (i := i) ha aggrow _ rfl hget ?_
        refine call_fn (c127 x Bx cx c _ hxl (hsx.same H.keeps)) ?_
        rintro _ w6 ⟨rfl, hk⟩
        replace H := H.same hk
        clear hk
        refine cond_dec (fun hm => ?_) (fun hm => ?_)
        · rw [if_pos hm] at hsn
          rw [hsn]
          exact ⟨(), ⟨up (by omega), trivial⟩, H⟩
        · rw [if_neg hm, Nat.add_zero] at hsn
          rw [hsn]
          exact ⟨(), ⟨rfl, trivial⟩, H⟩
      · clear H
        rintro ⟨⟩ u w6 H
        exact ⟨i + 1, by show R.length - (i + 1) < R.length - i; omega, ⟨up (by omega), rfl, trivial⟩, by show i + 1 ≤ R.length; omega, H⟩
    · have : i = R.length := by omega
      subst this
      exact ⟨(), ⟨by rw [List.take_length]; rfl, trivial⟩, H⟩
  · clear H
    rintro ⟨⟩ u w6 H
    replace H : Hp _ _ _ _ _ := H
    exact ⟨rfl, H.keeps⟩
theorem ent122 : enters Try.prog 122 = true := by kernel_rfl
theorem c122 (R : Mat) (v1 : Value) (w : World) (hl : R.length ≤ 100000) (hlr : ∀ r ∈ R, r.length ≤ 4000) (h1 : MatAt w v1 R) :
    Fun Try.prog 122 [v1] w fun v w' => v = .int .i64 ((boundS R [] : Nat) : Int) ∧ Same w w' := by
  refine fun_of_W (N := 44) Try.func122 ent122 rfl rfl rfl (by simp) ?_
  have H := Hp.start0 w
  obtain ⟨A, ca, va, rfl, ha, hra⟩ := h1.openM
  have hbl := bound_le R []
  refine cut_rule (γ := Unit) _ rfl (fun _ => []) (fun _ w' => Hp w (fun _ => False) w' [] []) ⟨(), trivial, H⟩ ?_
  clear H
  rintro ⟨⟩ u w0 H
  replace H : Hp _ _ _ _ _ := H
  refine cut_rule (γ := Unit) _ rfl (fun _ => [(3, .slice none 0 0)]) (fun _ w' => Hp w (fun _ => False) w' [] []) ⟨(), ⟨rfl, trivial⟩, H⟩ ?_
  clear H
  rintro ⟨⟩ u w0 H
  replace H : Hp _ _ _ _ _ := H
  refine cut_rule (γ := Unit) _ rfl (fun _ => [(4, .int .i64 0)]) (fun _ w' => Hp w (fun _ => False) w' [] []) ⟨(), ⟨rfl, trivial⟩, H⟩ ?_
  clear H
  rintro ⟨⟩ u w0 H
  replace H : Hp w (fun _ => False) w0 [] [] := H
  replace H := H.ownNil 3 1
  refine cut_rule (γ := Unit) _ rfl (fun _ => [(4, .int .i64 ((boundS R [] : Nat) : Int))]) (fun _ w' => Hp w (fun _ => False) w' [] []) ?_ ?_
  · refine loop_rule (γ := Nat × Nat × List Int × Option Addr × Nat) _ rfl (fun (i, n, used, B, d) => [(5, .int .i64 (i : Int)), (4, .int .i64 (n : Int)), (3, .slice B used.length d)])
      (fun (i, n, used, B, d) w' => (i ≤ R.length ∧ n + boundS (R.drop i) used = boundS R [] ∧ used.length ≤ 4000 * i) ∧ Hp w (fun _ => False) w' [own 3 1 (.slice B used.length d) used.length (intsI used)] [])
      (fun (i, _) => R.length - i) (0, 0, [], none, 0) ⟨rfl, rfl, rfl, trivial⟩ ⟨⟨Nat.zero_le _, by simp, by simp⟩, H⟩ ?_
    clear H
    rintro ⟨i, n, used, B, d⟩ u w4 ⟨⟨hi, hn, hul⟩, H⟩
    replace H : Hp _ _ _ _ _ := H
    refine len_sl Try.underlying89 ?_
    refine cond_dec (fun h7 => ?_) (fun h7 => ?_)
    · obtain ⟨x, hx⟩ : ∃ x, R[i]? = some x := ⟨_, List.getElem?_eq_getElem (by omega)⟩
      obtain ⟨g0, o0, rfl⟩ := ha.A (by omega)
      obtain ⟨Bx, cx, hget, hsx⟩ := hra i x hx
      have hxl := hlr x (List.mem_of_getElem? hx)
      rw [drop_head hx] at hn
      refine cut_rule (γ := Nat × List Int × Option Addr × Nat) _ rfl (fun (n, used, B, d) => [(4, .int .i64 (n : Int)), (3, .slice B used.length d)]) (fun (n, used, B, d) w' => (n + boundS (R.drop (i + 1)) used = boundS R [] ∧ used.length ≤ 4000 * (i + 1)) ∧ Hp w (fun _ => False) w' [own 3 1 (.slice B used.length d) used.length (intsI used)] []) ?_ ?_
      · refine cut_rule (γ := Unit) _ rfl (fun _ => [(6, .bool true)]) (fun _ w' => Hp w (fun _ => False) w' [own 3 1 (.slice B used.length d) used.length (intsI used)] []) ⟨(), ⟨rfl, trivial⟩, H⟩ ?_
        clear H
        rintro ⟨⟩ u w5 H
        replace H : Hp _ _ _ _ _ := H
        refine cut_rule (γ := Unit) _ rfl (fun _ => [(6, .bool (!x.any fun k => decide (k ∈ used)))]) (fun _ w' => Hp w (fun _ => False) w' [own 3 1 (.slice B used.length d) used.length (intsI used)] []) ?_ ?_
        · refine loop_rule (γ := Nat) _ rfl (fun j => [(7, .int .i64 (j : Int)), (6, .bool (!(x.take j).any fun k => decide (k ∈ used)))]) (fun j w' => j ≤ x.length ∧ Hp w (fun _ => False) w' [own 3 1 (.slice B used.length d) used.length (intsI used)] []) (fun j => x.length - j) 0 ⟨rfl, rfl, trivial⟩ ⟨Nat.zero_le _, H⟩ ?_
          clear H
          rintro j u w6 ⟨hj, H⟩
          replace H : Hp _ _ _ _ _ := H
          refine idxAddr_sl Try.underlying89 (s := 1) size32 i rfl (by omega) (o' := o0 + i) (by omega) ?_
          refine H.loadSl (i := i) ha aggrow _ rfl hget ?_
          refine len_sl Try.underlying32 ?_
          refine cond_dec (fun h8 => ?_) (fun h8 => ?_)
          · obtain ⟨k, hk⟩ : ∃ k, x[j]? = some k := ⟨_, List.getElem?_eq_getElem (by omega)⟩
            obtain ⟨g2, o2, rfl⟩ := hsx.A (by omega)
            have hgk : (intsI x)[j]? = some (.int .i64 k) := by rw [intsI, List.getElem?_map, hk]; rfl
            have hsj := any_snocI (fun k => decide (k ∈ used)) hk
            refine cut_rule (γ := Unit) _ rfl (fun _ => [(6, .bool (!(x.take (j + 1)).any fun k => decide (k ∈ used)))]) (fun _ w' => Hp w (fun _ => False) w' [own 3 1 (.slice B used.length d) used.length (intsI used)] []) ?_ ?_
            · refine idxAddr_sl Try.underlying89 (s := 1) size32 i rfl (by omega) (o' := o0 + i) (by omega) ?_
              refine H.loadSl (i := i) ha aggrow _ rfl hget ?_
              refine idxAddr_sl Try.underlying32 (s := 1) size3 j rfl (by omega) (o' := o2 + j) (by omega) ?_
              refine H.loadSl (i := j) hsx agg3 _ rfl hgk ?_
              refine call_fn (c127 used B d k _ (by omega) (own_Sl (H.get 0 rfl))) ?_
              rintro _ w7 ⟨rfl, hk7⟩
              replace H := H.same hk7
              clear hk7
              refine cond_dec (fun hm => ?_) (fun hm => ?_)
              · exact ⟨(), ⟨by rw [hsj, decide_eq_true hm, Bool.or_true]; rfl, trivial⟩, H⟩
              · exact ⟨(), ⟨by rw [hsj, decide_eq_false hm, Bool.or_false]; rfl, trivial⟩, H⟩
            · clear H
              rintro ⟨⟩ u w7 H
              exact ⟨j + 1, by show x.length - (j + 1) < x.length - j; omega, ⟨up (by omega), rfl, trivial⟩, by show j + 1 ≤ x.length; omega, H⟩
          · have e : x.take j = x := List.take_of_length_le (by omega)
            exact ⟨(), ⟨congrArg (fun l : List Int => Value.bool (!l.any fun k => decide (k ∈ used))) e, trivial⟩, H⟩
        · clear H
          rintro ⟨⟩ u w6 H
          replace H : Hp _ _ _ _ _ := H
          cases hany : (x.any fun k => decide (k ∈ used)) with
          | true =>
            rw [bound_yes hany] at hn
            refine cond_no rfl ?_
            exact ⟨(n, used, B, d), ⟨rfl, rfl, trivial⟩, ⟨hn, by omega⟩, H⟩
          | false =>
            rw [bound_new hany] at hn
            refine cond_yes rfl ?_
            refine cut_rule (γ := Unit) _ rfl (fun _ => [(4, .int .i64 ((n + 1 : Nat) : Int))]) (fun _ w' => Hp w (fun _ => False) w' [own 3 1 (.slice B used.length d) used.length (intsI used)] []) ⟨(), ⟨up (by omega), trivial⟩, H⟩ ?_
            clear H
            rintro ⟨⟩ u w7 H
            replace H : Hp _ _ _ _ _ := H
            refine H.drawC [] (fun u H => H.forget) fol (by kernel_rfl) ?_
            clear H
            intro w8 H
            refine Hp.buildNil H T32 ?_
            clear H
            intro g9 w9 H
            refine ⟨.inl H.forget.forget, ?_⟩
            refine Hp.appendCopy H 0 T32 rfl (own_Sl (H.get 1 rfl)) (intsI_one _) (by omega) (by omega) ?_
            clear H
            intro B2 d2 w10 H
            refine ⟨.inl H.forget.forget, ?_⟩
            refine quiet _ (fun w H => idxAddr_sl Try.underlying89 (s := 1) size32 i rfl (by omega) (o' := o0 + i) (by omega) ⟨rfl, rfl⟩) ?_
            refine quiet _ (fun w H => H.loadSl (i := i) ha aggrow _ rfl hget ⟨rfl, rfl⟩) ?_
            refine H.appendSl 0 T32 rfl (hsx.same H.keeps) (intsI_one _) (by omega) (by omega) ?_
            clear H
            intro B3 d3 w11 H
            refine ⟨.inl H.forget.forget, ?_⟩
            have e1 : used.length + x.length = (used ++ x).length := List.length_append.symm
            rw [e1, ← intsI_append] at H
            exact ⟨(n + 1, used ++ x, B3, d3), ⟨rfl, by rw [e1]; rfl, trivial⟩, ⟨by omega, by rw [← e1]; omega⟩, H.only⟩
      · clear H hn hul
        rintro ⟨n2, used2, B2, d2⟩ u w5 ⟨⟨hn, hul⟩, H⟩
        exact ⟨(i + 1, n2, used2, B2, d2), by show R.length - (i + 1) < R.length - i; omega, ⟨up (by omega), rfl, rfl, trivial⟩, ⟨by show i + 1 ≤ R.length; omega, hn, hul⟩, H⟩
    · have : i = R.length := by omega
      subst this
      rw [List.drop_length] at hn
      have hn : n = boundS R [] := by simpa [boundS] using hn
      exact ⟨(), ⟨by rw [hn]; rfl, trivial⟩, H.forget⟩
  · clear H
    rintro ⟨⟩ u w4 H
    replace H : Hp _ _ _ _ _ := H
    exact ⟨rfl, H.keeps⟩
end Go.Proofs.Ytjebpngdinbckaa
end

section
/- The search: the reference's Greedy. -/
namespace Go.Proofs.Ytjebpngdinbckaa
open Go.Dk
attribute [local irreducible] IntKind.wrap

theorem _root_.Go.Dk.Hp.matR {w0 w : World} {F : Nat → Prop} {L M : List Res} {S : Nat → Prop} {B : Option Addr} {d : Nat} {hs : List Value} {Q : Mat} (H : Hp w0 F w (own 32 1 (.slice B hs.length d) hs.length hs :: L) (rowsR S hs Q :: M)) :
    ∃ S', Hp w0 F w L [MatR S' (.slice B Q.length d) Q] := by
  have H2 := H.freeze
  have ho := own_sl (H2.ro 0 rfl)
  have hr : hsOk S w hs Q := H2.ro 1 rfl
  refine ⟨allF [own 32 1 (.slice B hs.length d) hs.length hs, rowsR S hs Q], ((H2.weakenRO (M' := [own 32 1 (.slice B hs.length d) hs.length hs, rowsR S hs Q]) (fun r h => ?_)).addAll (MatR (allF [own 32 1 (.slice B hs.length d) hs.length hs, rowsR S hs Q]) (.slice B Q.length d) Q) (fun g hg => hg) ⟨B, d, hs, rfl, ?_, fun i u ks hu hks => ?_⟩).onlyRO⟩
  · rcases List.mem_cons.1 h with rfl | h
    · exact .head _
    · rw [List.mem_singleton] at h; subst h; exact .tail _ (.head _)
  · rw [← hr.1]; exact sl.mono ho fun g hg => ⟨_, .head _, hg⟩
  · exact (hr.2 i u ks hu hks).mono fun g hg => ⟨_, .tail _ (.head _), hg⟩
theorem firstMost_zero (R : Mat) : firstMost R 0 0 := ⟨⟨by omega, .inr rfl⟩, fun d h => by omega⟩
theorem firstMost_new {R : Mat} {c : Nat} {b : Int} (h : firstMost R c b) (hc : cntM R b < cntM R (c : Int)) : firstMost R (c + 1) (c : Int) := ⟨⟨by omega, .inl (by omega)⟩, fun d hd => by
  by_cases hdc : d = c
  · subst hdc; exact .inr ⟨rfl, Int.le_refl _⟩
  · have := h.2 d (by omega); left; omega⟩
theorem firstMost_old {R : Mat} {c : Nat} {b : Int} (h : firstMost R c b) (hc : ¬ cntM R b < cntM R (c : Int)) : firstMost R (c + 1) b := ⟨⟨h.1.1, h.1.2.imp (fun h => by omega) id⟩, fun d hd => by
  by_cases hdc : d = c
  · subst hdc
    have := h.1
    omega
  · exact h.2 d (by omega)⟩
theorem ent124 : enters Try.prog 124 = true := by kernel_rfl
theorem c124 (n : Nat) (R : Mat) (v1 : Value) (S : Nat → Prop) (w : World) (hl : R.length ≤ 100000) (hright : RightM n R) (hbare : [] ∉ R) (h1 : matOk S v1 R w) (hS : ∀ g, S g → g < w.heap.size) :
    Fun Try.prog 124 [v1, .int .i64 (n : Int)] w fun v w' => ∃ B d l, v = .slice B (risen n l).length d ∧ Greedy R l ∧ NewR w w' (own 3 1 (.slice B (risen n l).length d) (risen n l).length (intsI (risen n l))) := by
  refine fun_of_W (N := 68) Try.func124 ent124 rfl rfl rfl (by simp) ?_
  have H := startM h1 hS
  obtain ⟨A, ca, rfl⟩ := h1.form
  have hn4 : n ≤ 4000 := by have := hright.le; omega
  refine cut_rule (γ := Unit) _ rfl (fun _ => []) (fun _ w' => Hp w (fun _ => False) w' [] [MatR S (.slice A R.length ca) R]) ⟨(), trivial, H⟩ ?_
  clear H
  rintro ⟨⟩ u w0 H
  replace H : Hp _ _ _ _ _ := H
  refine cut_rule (γ := Nat) _ rfl (fun g => [(5, .slice (some ⟨g, 0, none⟩) n n)]) (fun g w' => Hp w (fun _ => False) w' [own 4 1 (.slice (some ⟨g, 0, none⟩) n n) n (bls (tookL n []))] [MatR S (.slice A R.length ca) R]) ?_ ?_
  · refine H.make T29 n rfl rfl (by omega) (by omega) ?_
    clear H
    intro g w1 H
    rw [madeBool, tookL_nil] at H
    exact ⟨g, ⟨rfl, trivial⟩, H⟩
  clear H
  rintro g u w1 H
  replace H : Hp _ _ _ _ _ := H
  refine cut_rule (γ := List Int) _ rfl (fun _ => []) (fun l w' => Greedy R l ∧ Hp w (fun _ => False) w' [own 4 1 (.slice (some ⟨g, 0, none⟩) n n) n (bls (tookL n l))] []) ?_ ?_
  · refine loop_rule (γ := List Int × Mat × Option Addr × Nat × (Nat → Prop)) _ rfl (fun (_, Q, A, ca, _) => [(0, .slice A Q.length ca)])
      (fun (l, Q, A, ca, S') w' => ((∀ rest, Greedy Q rest → Greedy R (l ++ rest)) ∧ RightM n Q ∧ [] ∉ Q ∧ Q.length ≤ R.length) ∧ Hp w (fun _ => False) w' [own 4 1 (.slice (some ⟨g, 0, none⟩) n n) n (bls (tookL n l))] [MatR S' (.slice A Q.length ca) Q])
      (fun (_, Q, _) => Q.length) ([], R, A, ca, S) ⟨rfl, trivial⟩ ⟨⟨fun rest h => h, hright, hbare, Nat.le_refl _⟩, H⟩ ?_
    clear H h1 hS
    rintro ⟨l, Q, A, ca, S'⟩ u w2 ⟨⟨hg, hQr, hQb, hQl⟩, H⟩
    replace H : Hp _ _ _ _ _ := H
    have hQlr : ∀ r ∈ Q, r.length ≤ 1000000000 := fun r hr => by have := row_len hQr hr; omega
    refine len_sl Try.underlying89 ?_
    refine cond_dec (fun h7 => ?_) (fun h7 => ?_)
    · refine cut_rule (γ := Unit) _ rfl (fun _ => [(6, .int .i64 0)]) (fun _ w' => Hp w (fun _ => False) w' [own 4 1 (.slice (some ⟨g, 0, none⟩) n n) n (bls (tookL n l))] [MatR S' (.slice A Q.length ca) Q]) ⟨(), ⟨rfl, trivial⟩, H⟩ ?_
      clear H
      rintro ⟨⟩ u w3 H
      replace H : Hp _ _ _ _ _ := H
      refine cut_rule (γ := Int) _ rfl (fun b => [(6, .int .i64 b)]) (fun b w' => IsBusy Q b ∧ Hp w (fun _ => False) w' [own 4 1 (.slice (some ⟨g, 0, none⟩) n n) n (bls (tookL n l))] [MatR S' (.slice A Q.length ca) Q]) ?_ ?_
      · refine loop_rule (γ := Nat × Int) _ rfl (fun (c, b) => [(7, .int .i64 (c : Int)), (6, .int .i64 b)]) (fun (c, b) w' => (c ≤ n ∧ firstMost Q c b) ∧ Hp w (fun _ => False) w' [own 4 1 (.slice (some ⟨g, 0, none⟩) n n) n (bls (tookL n l))] [MatR S' (.slice A Q.length ca) Q]) (fun (c, _) => n - c) (0, 0) ⟨rfl, rfl, trivial⟩ ⟨⟨Nat.zero_le _, firstMost_zero Q⟩, H⟩ ?_
        clear H
        rintro ⟨c, b⟩ u w4 ⟨⟨hc, hf⟩, H⟩
        replace H : Hp _ _ _ _ _ := H
        refine cond_dec (fun h8 => ?_) (fun h8 => ?_)
        · refine cut_rule (γ := Int) _ rfl (fun b => [(6, .int .i64 b)]) (fun b w' => firstMost Q (c + 1) b ∧ Hp w (fun _ => False) w' [own 4 1 (.slice (some ⟨g, 0, none⟩) n n) n (bls (tookL n l))] [MatR S' (.slice A Q.length ca) Q]) ?_ ?_
          · refine call_fn (c193 Q _ (c : Int) _ (by omega) hQlr (MatR.mono (H.ro 0 rfl) (H.rlt _ (.head _)))) ?_
            rintro _ w5 ⟨rfl, hk⟩
            replace H := H.same hk
            clear hk
            refine call_fn (c193 Q _ b _ (by omega) hQlr (MatR.mono (H.ro 0 rfl) (H.rlt _ (.head _)))) ?_
            rintro _ w6 ⟨rfl, hk⟩
            replace H := H.same hk
            clear hk
            refine cond_dec (fun h9 => ?_) (fun h9 => ?_)
            · exact ⟨(c : Int), ⟨rfl, trivial⟩, firstMost_new hf (by omega), H⟩
            · exact ⟨b, ⟨rfl, trivial⟩, firstMost_old hf (by omega), H⟩
          · clear H
            rintro b2 u w5 ⟨hf2, H⟩
            exact ⟨(c + 1, b2), by show n - (c + 1) < n - c; omega, ⟨up (by omega), rfl, trivial⟩, ⟨by show c + 1 ≤ n; omega, hf2⟩, H⟩
        · have : c = n := by omega
          subst this
          exact ⟨b, ⟨rfl, trivial⟩, firstMost_end hQr hQb (fun e => by subst e; simp at h7) hf, H⟩
      clear H
      rintro b u w4 ⟨hbusy, H⟩
      replace H : Hp _ _ _ _ _ := H
      have hwl := without_lt (busy_in hbusy)
      have hbr : 0 ≤ b ∧ b < n := by obtain ⟨r, hr, hk⟩ := busy_in hbusy; exact hQr.rng r hr b hk
      refine cut_rule (γ := Unit) _ rfl (fun _ => []) (fun _ w' => Hp w (fun _ => False) w' [own 4 1 (.slice (some ⟨g, 0, none⟩) n n) n (bls (tookL n (l ++ [b])))] [MatR S' (.slice A Q.length ca) Q]) ?_ ?_
      · refine idxAddr_sl Try.underlying29 (s := 1) size4 b.toNat (by omega) (by omega) (o' := b.toNat) (by omega) ?_
        refine H.storeOwn 0 rfl size4 (by rw [bls, List.length_map, tookL_length]; omega) rfl ?_
        clear H
        intro w5 H
        refine ⟨(), trivial, ?_⟩
        rw [tookL_set hbr.1 hbr.2]
        exact H
      clear H
      rintro ⟨⟩ u w5 H
      replace H : Hp _ _ _ _ _ := H
      refine cut_rule (γ := Unit) _ rfl (fun _ => [(8, .slice none 0 0)]) (fun _ w' => Hp w (fun _ => False) w' [own 4 1 (.slice (some ⟨g, 0, none⟩) n n) n (bls (tookL n (l ++ [b])))] [MatR S' (.slice A Q.length ca) Q]) ⟨(), ⟨rfl, trivial⟩, H⟩ ?_
      clear H
      rintro ⟨⟩ u w6 H
      replace H : Hp _ _ _ _ _ := H
      have H2 : Hp w (fun _ => False) w6 [own 32 1 (.slice none 0 0) 0 [], own 4 1 (.slice (some ⟨g, 0, none⟩) n n) n (bls (tookL n (l ++ [b])))] [rowsR S' [] [], MatR S' (.slice A Q.length ca) Q] :=
        (H.ownNil 32 1).addAll (rowsR S' [] []) (fun g hg => ⟨_, .head _, hg⟩) (hsOk.nil _ _)
      clear H
      refine cut_rule (γ := Option Addr × Nat × List Value) _ rfl (fun (B, d, hs) => [(8, .slice B hs.length d)]) (fun (B, d, hs) w' => hs.length = (withoutM Q b).length ∧
        Hp w (fun _ => False) w' [own 32 1 (.slice B hs.length d) hs.length hs, own 4 1 (.slice (some ⟨g, 0, none⟩) n n) n (bls (tookL n (l ++ [b])))] [rowsR S' hs (withoutM Q b), MatR S' (.slice A Q.length ca) Q]) ?_ ?_
      · refine loop_rule (γ := Nat × Option Addr × Nat × List Value) _ rfl (fun (i, B, d, hs) => [(9, .int .i64 (i : Int)), (8, .slice B hs.length d)])
          (fun (i, B, d, hs) w' => i ≤ Q.length ∧ Hp w (fun _ => False) w' [own 32 1 (.slice B hs.length d) hs.length hs, own 4 1 (.slice (some ⟨g, 0, none⟩) n n) n (bls (tookL n (l ++ [b])))] [rowsR S' hs (withoutM (Q.take i) b), MatR S' (.slice A Q.length ca) Q])
          (fun (i, _) => Q.length - i) (0, none, 0, []) ⟨rfl, rfl, trivial⟩ ⟨Nat.zero_le _, H2⟩ ?_
        clear H2
        rintro ⟨i, B, d, hs⟩ u w7 ⟨hi, H⟩
        replace H : Hp _ _ _ _ _ := H
        have hhs : hsOk S' w7 hs (withoutM (Q.take i) b) := H.ro 0 rfl
        refine len_sl Try.underlying89 ?_
        refine cond_dec (fun h8 => ?_) (fun h8 => ?_)
        · obtain ⟨x, hx⟩ : ∃ x, Q[i]? = some x := ⟨_, List.getElem?_eq_getElem (by omega)⟩
          obtain ⟨A', ca', va, hvA, ha, hrow⟩ := matOk.rows (H.ro 1 rfl) (H.rlt _ (.tail _ (.head _)))
          injection hvA with e1 _ e2
          subst e1; subst e2
          obtain ⟨g0, o0, rfl⟩ := ha.A (by omega)
          obtain ⟨Bx, cx, hget, hrv, hsx⟩ := hrow i x hx
          have hxl := hQlr x (List.mem_of_getElem? hx)
          have hsn := without_snoc b hx
          have hb1 : hs.length ≤ 1000000000 := by have h1 := hhs.1; have h2 := without_len (Q.take i) b; rw [List.length_take] at h2; omega
          refine cut_rule (γ := Option Addr × Nat × List Value) _ rfl (fun (B, d, hs) => [(8, .slice B hs.length d)]) (fun (B, d, hs) w' => Hp w (fun _ => False) w' [own 32 1 (.slice B hs.length d) hs.length hs, own 4 1 (.slice (some ⟨g, 0, none⟩) n n) n (bls (tookL n (l ++ [b])))] [rowsR S' hs (withoutM (Q.take (i + 1)) b), MatR S' (.slice (some ⟨g0, o0, none⟩) Q.length ca) Q]) ?_ ?_
          · refine idxAddr_sl Try.underlying89 (s := 1) size32 i rfl (by omega) (o' := o0 + i) (by omega) ?_
            refine load_cell aggrow ((ha.cell i (by omega)).trans hget) ?_
            refine call_fn (c127 x Bx cx b _ hxl hsx) ?_
            rintro _ w8 ⟨rfl, hk⟩
            have hlt7 := H.rlt _ (.head _)
            replace H := H.same hk
            have ha := ha.same hk
            have hk8 : ∀ g, S' g → w8.heap[g]? = w7.heap[g]? := fun g hg => hk.old g (hlt7 g hg) id
            clear hk
            refine cond_split (fun hb => ?_) (fun hb => ?_)
            · rw [if_neg (by simpa using hb)] at hsn
              obtain ⟨Bx', cx', hvx, hslx⟩ := hrv
              injection hvx with e1 _ e2
              subst e1; subst e2
              refine idxAddr_sl Try.underlying89 (s := 1) size32 i rfl (by omega) (o' := o0 + i) (by omega) ?_
              refine load_cell aggrow ((ha.cell i (by omega)).trans hget) ?_
              replace H := H.addAll (sl S' (.slice Bx x.length cx) 1 x.length (intsI x)) (fun g hg => ⟨_, .head _, hg⟩) ((sl S' _ 1 _ _).stable _ _ (fun g hg => hk8 g hg) hslx)
              refine H.buildOne T89 rfl ?_ 
              clear H 
              intro g5 w9 H
              refine H.appendOne 0 T89 rfl rfl (by omega) (by omega) ?_
              clear H
              intro B2 d2 w10 H
              have hli : hs.length + 1 = (hs ++ [Value.slice Bx x.length cx]).length := by simp
              rw [hli] at H
              have hh2 : hsOk S' w10 hs (withoutM (Q.take i) b) := H.ro 1 rfl
              have hr2 : rowV S' w10 (.slice Bx x.length cx) x := ⟨_, _, rfl, H.ro 0 rfl⟩
              have H3 := H.addAll (rowsR S' (hs ++ [Value.slice Bx x.length cx]) (withoutM (Q.take (i + 1)) b)) (fun g hg => ⟨_, .tail _ (.head _), hg⟩) (by rw [hsn]; exact hh2.snoc hr2)
              refine ⟨(B2, d2, hs ++ [Value.slice Bx x.length cx]), ⟨by rw [hli]; rfl, trivial⟩, H3.weakenRO fun r hr => ?_⟩
              rcases List.mem_cons.1 hr with rfl | hr
              · exact .head _
              · rw [List.mem_singleton] at hr; subst hr; exact .tail _ (.tail _ (.tail _ (.head _)))
            · rw [if_pos (by simpa using hb), List.append_nil] at hsn
              exact ⟨(B, d, hs), ⟨rfl, trivial⟩, by rw [hsn]; exact H⟩
          · clear H hhs
            rintro ⟨B2, d2, hs2⟩ u w8 H
            exact ⟨(i + 1, B2, d2, hs2), by show Q.length - (i + 1) < Q.length - i; omega, ⟨up (by omega), rfl, trivial⟩, by show i + 1 ≤ Q.length; omega, H⟩
        · have : i = Q.length := by omega
          subst this
          rw [List.take_length] at H hhs
          exact ⟨(B, d, hs), ⟨rfl, trivial⟩, hhs.1, H⟩
      · clear H2
        rintro ⟨B, d, hs⟩ u w7 ⟨hhl, H⟩
        replace H : Hp _ _ _ _ _ := H
        obtain ⟨S2, H2⟩ := H.matR
        clear H
        refine ⟨(l ++ [b], withoutM Q b, B, d, S2), hwl, ⟨by rw [hhl]; rfl, trivial⟩, ⟨fun rest hr => ?_, without_right hQr b, without_bare hQb, by omega⟩, H2⟩
        rw [List.append_assoc]
        exact hg _ (.cons hbusy hr)
    · obtain rfl : Q = [] := List.length_eq_zero_iff.1 (by omega)
      have := hg [] .nil
      rw [List.append_nil] at this
      exact ⟨l, trivial, this, H.forgetRO⟩
  clear H
  rintro TE u w2 ⟨hgr, H⟩
  replace H : Hp _ _ _ _ _ := H
  have hrl : ∀ c, (risen c TE).length ≤ c := fun c => risen_len_le c TE
  refine cut_rule (γ := Unit) _ rfl (fun _ => [(10, .slice none 0 0)]) (fun _ w' => Hp w (fun _ => False) w' [own 4 1 (.slice (some ⟨g, 0, none⟩) n n) n (bls (tookL n TE))] []) ⟨(), ⟨rfl, trivial⟩, H⟩ ?_
  clear H
  rintro ⟨⟩ u w3 H
  replace H : Hp _ _ _ _ _ := H
  have H2 := H.ownNil 3 1
  clear H
  refine cut_rule (γ := Option Addr × Nat) _ rfl (fun (B, d) => [(10, .slice B (risen n TE).length d)])
    (fun (B, d) w' => Hp w (fun _ => False) w' [own 3 1 (.slice B (risen n TE).length d) (risen n TE).length (intsI (risen n TE)), own 4 1 (.slice (some ⟨g, 0, none⟩) n n) n (bls (tookL n TE))] []) ?_ ?_
  · refine loop_rule (γ := Nat × Option Addr × Nat) _ rfl (fun (c, B, d) => [(11, .int .i64 (c : Int)), (10, .slice B (risen c TE).length d)])
      (fun (c, B, d) w' => c ≤ n ∧ Hp w (fun _ => False) w' [own 3 1 (.slice B (risen c TE).length d) (risen c TE).length (intsI (risen c TE)), own 4 1 (.slice (some ⟨g, 0, none⟩) n n) n (bls (tookL n TE))] [])
      (fun (c, _) => n - c) (0, none, 0) ⟨rfl, rfl, trivial⟩ ⟨Nat.zero_le _, H2⟩ ?_
    clear H2
    rintro ⟨c, B, d⟩ u w4 ⟨hc, H⟩
    replace H : Hp _ _ _ _ _ := H
    refine cond_dec (fun h7 => ?_) (fun h7 => ?_)
    · have hsn := risen_succ c TE
      have hcl := hrl c
      refine cut_rule (γ := Option Addr × Nat) _ rfl (fun (B, d) => [(10, .slice B (risen (c + 1) TE).length d)])
        (fun (B, d) w' => Hp w (fun _ => False) w' [own 3 1 (.slice B (risen (c + 1) TE).length d) (risen (c + 1) TE).length (intsI (risen (c + 1) TE)), own 4 1 (.slice (some ⟨g, 0, none⟩) n n) n (bls (tookL n TE))] []) ?_ ?_
      · refine idxAddr_sl Try.underlying29 (s := 1) size4 c rfl (by omega) (o' := c) (by omega) ?_
        refine H.loadOwn 1 rfl agg4 (tookL_get (by omega)) ?_
        refine cond_dec (fun hm => ?_) (fun hm => ?_)
        · rw [if_pos hm] at hsn
          refine H.buildOne T32 rfl ?_
          clear H
          intro g11 w11 H
          refine H.appendOne 0 T32 rfl rfl (by omega) (by omega) ?_
          clear H
          intro B2 d2 w12 H
          have e1 : (risen (c + 1) TE).length = (risen c TE).length + 1 := by rw [hsn]; simp
          have e2 : intsI (risen (c + 1) TE) = intsI (risen c TE) ++ [.int .i64 (c : Int)] := by rw [hsn, intsI_snoc]
          exact ⟨(B2, d2), ⟨by rw [e1]; rfl, trivial⟩, by rw [e1, e2]; exact H⟩
        · rw [if_neg hm, List.append_nil] at hsn
          exact ⟨(B, d), ⟨by rw [hsn]; rfl, trivial⟩, by rw [hsn]; exact H⟩
      · clear H
        rintro ⟨B2, d2⟩ u w5 H
        exact ⟨(c + 1, B2, d2), by show n - (c + 1) < n - c; omega, ⟨up (by omega), rfl, trivial⟩, by show c + 1 ≤ n; omega, H⟩
    · have : c = n := by omega
      subst this
      exact ⟨(B, d), ⟨rfl, trivial⟩, H⟩
  clear H2
  rintro ⟨B, d⟩ u w4 H
  replace H : Hp _ _ _ _ _ := H
  exact ⟨B, d, TE, rfl, hgr, (H.only).out⟩
end Go.Proofs.Ytjebpngdinbckaa
end

section
/- The search: Fewest. -/
namespace Go.Proofs.Ytjebpngdinbckaa
open Go.Dk
attribute [local irreducible] IntKind.wrap

theorem _root_.Go.Dk.Hp.only3 {w0 w : World} {F : Nat → Prop} {L M : List Res} {a b c : Res} (H : Hp w0 F w (a :: b :: c :: L) M) : Hp w0 F w [a, b, c] M := by
  have hm : ∀ s, s ∈ [a, b, c] → s ∈ a :: b :: c :: L := fun s hs => by
    have : s ∈ [a, b, c] ++ L := List.mem_append_left _ hs
    exact this
  exact ⟨H.keeps, fun s hs => H.ok s (hm s hs), fun s hs => H.lt s (hm s hs), fun s hs => H.new s (hm s hs), (List.pairwise_append.1 (show List.Pairwise _ ([a, b, c] ++ L) from H.dis)).1, H.rok, H.rlt, fun q hq s hs => H.rdis q hq s (hm s hs)⟩
theorem _root_.Go.Dk.Hp.blkOwn {w0 w : World} {F : Nat → Prop} {L M : List Res} {g l sz : Nat} {e : TypeId} {cs : Array Value} (H : Hp w0 F w (blk g e cs :: L) M) (hs : cs.size = l * sz) (hl : l ≤ maxLen) : Hp w0 F w (own e sz (.slice (some ⟨g, 0, none⟩) l l) l cs.toList :: L) M :=
  H.re (fun h => ⟨by simpa using hs, .inr ⟨g, l, cs, rfl, Nat.zero_le _, h, Nat.le_refl _, hl, hs, by rw [← hs]; exact List.take_length⟩⟩) (fun x hx => by
    have hx : some g = some x := hx
    injection hx with hx
    exact hx.symm)
theorem load_part {P : Program} {w : World} {k : Value → World → Prop} {g : Nat} {t ty : TypeId} {cs : Array Value} (h : (blk g t cs).ok w) (cs' : List Value) (hagg : aggT P ty = some true) (hs : sizeT P ty = some cs'.length) (hp : ∀ (j : Nat) v, cs'[j]? = some v → cs[j]? = some v)
    (hk : k (.agg cs'.toArray) w) : loadK P ty (.pointer (some ⟨g, 0, none⟩)) w k :=
  load_cells cs' hagg hs (fun j v hj => by rw [addr_add, Nat.zero_add, blk_cell h]; exact hp j v hj) hk
/-- What Fewest answers. -/
def FewR (cols : Int) (R : Mat) (m : Nat) (G : List Int) (s e : Int) : Prop :=
  (rightB cols R = false ∧ G = [] ∧ s = 0 ∧ e = 1) ∨ (rightB cols R = true ∧ bareB R = true ∧ G = [] ∧ s = 0 ∧ e = 7) ∨
  (rightB cols R = true ∧ bareB R = false ∧ e = 0 ∧ (0 ≤ s ∧ s ≤ m) ∧ (∃ b, G = risen cols.toNat b) ∧ IsBest cols.toNat R (G.length : Int) ∧ SolvesM R G)
def encP (n : Int) (A3 : Option Addr) (l3 c3 : Nat) (t : Value) (b : Value × Value) : Array Value := (encT n (.slice A3 l3 c3, t) ++ encT n b).toArray
theorem ent125 : enters Try.prog 125 = true := by kernel_rfl
set_option maxHeartbeats 4000000 in
theorem c125 (cols : Int) (R : Mat) (v1 : Value) (m : Nat) (S : Nat → Prop) (w : World) (hl : R.length ≤ 1000000) (hlr : ∀ r ∈ R, r.length ≤ 1000000000) (hm : m ≤ 1000000000) (hc : rightB cols R = true → cols ≤ 30 ∧ 2 ^ cols.toNat ≤ m) (h1 : matOk S v1 R w) (hS : ∀ g, S g → g < w.heap.size) :
    Fun Try.prog 125 [mv cols v1, .int .i64 (m : Int)] w fun v w' => ∃ B d G s e, v = .tuple #[.slice B G.length d, .int .i64 s, .int .i64 e] ∧ FewR cols R m G s e ∧ NewR w w' (own 3 1 (.slice B G.length d) G.length (intsI G)) := by
  refine fun_of_W (N := 110) Try.func125 ent125 rfl rfl rfl (by simp) ?_
  have H := startM h1 hS
  have h1' : MatAt w v1 R := MatR.mono h1 hS
  obtain ⟨A, ca, hv⟩ := h1.form
  subst hv
  refine cut_rule (γ := Nat) _ rfl (fun g2 => [(2, .pointer (some ⟨g2, 0, none⟩))]) (fun g2 w' => Hp w (fun _ => False) w' [blk g2 91 (mc cols (.slice A R.length ca))] [MatR S (.slice A R.length ca) R]) ?_ ?_
  · refine H.box 91 (mv _ _) (cs := mc _ _) rfl ?_
    clear H
    intro g1 w1 H
    exact ⟨g1, ⟨rfl, trivial⟩, H⟩
  clear H
  rintro g2 u w1 H
  replace H : Hp _ _ _ _ _ := H
  refine cut_rule (γ := Option Addr × Nat × List Int × Int) _ rfl (fun (B, d, G, e) => [(7, .slice B G.length d), (8, .int .i64 e)]) (fun (B, d, G, e) w' => GreedyR cols R G e ∧ Hp w (fun _ => False) w' [own 3 1 (.slice B G.length d) G.length (intsI G), blk g2 91 (mc cols (.slice A R.length ca))] [MatR S (.slice A R.length ca) R]) ?_ ?_
  · refine H.loadAll 0 rfl agg91 size91 ?_
    refine call_fn (c121 cols R _ S _ (by omega) hlr (H.ro 0 rfl) (H.rlt _ (.head _))) ?_
    rintro _ w2 ⟨B, d, G, e, rfl, hG, hn⟩
    exact ⟨(B, d, G, e), ⟨rfl, rfl, trivial⟩, hG, H.addNew hn⟩
  clear H
  rintro ⟨Bb, db, best, e⟩ u w2 ⟨hG, H⟩
  replace H : Hp _ _ _ _ _ := H
  refine cut_rule (γ := Unit) _ rfl (fun _ => []) (fun _ w' => (e = 0) ∧ Hp w (fun _ => False) w' [own 3 1 (.slice Bb best.length db) best.length (intsI best), blk g2 91 (mc cols (.slice A R.length ca))] [MatR S (.slice A R.length ca) R]) ?_ ?_
  · refine cond_bne (fun he => ?_) (fun he => ?_)
    · refine ⟨none, 0, [], 0, e, rfl, ?_, ((H.ownNil 3 1).only).out⟩
      rcases hG with ⟨h1, _, h3⟩ | ⟨h1, h2, _, h3⟩ | ⟨_, _, h3, _⟩
      · exact .inl ⟨h1, rfl, rfl, h3⟩
      · exact .inr (.inl ⟨h1, h2, rfl, rfl, h3⟩)
      · exact absurd h3 he
    · exact ⟨(), trivial, he, H⟩
  clear H
  rintro ⟨⟩ u w3 ⟨he, H⟩
  replace H : Hp _ _ _ _ _ := H
  obtain ⟨hr', hb', gl, hgl, hGe⟩ : rightB cols R = true ∧ bareB R = false ∧ ∃ l, Greedy R l ∧ best = risen cols.toNat l := by
    rcases hG with ⟨_, _, h3⟩ | ⟨_, _, _, h3⟩ | ⟨h1, h2, _, h3⟩
    · omega
    · omega
    · exact ⟨h1, h2, h3⟩
  clear hG
  have hright := rightB_iff.1 hr'
  obtain ⟨n, rfl⟩ : ∃ n : Nat, cols = n := ⟨cols.toNat, by have := hright.ge; omega⟩
  rw [Int.toNat_natCast] at hGe
  obtain ⟨hn30, h2n⟩ := hc hr'
  rw [Int.toNat_natCast] at h2n
  have hbare : [] ∉ R := fun h => by rw [bareB_iff.2 h] at hb'; cases hb'
  have hsolve : SolvesM R best := by rw [hGe]; exact risen_solves hright (greedy_solves hgl)
  have hb40 : best.length ≤ 4000 := by have := risen_len_le n gl; rw [hGe]; omega
  refine cut_rule (γ := Unit) _ rfl (fun _ => [(1, .int .i64 (m : Int))]) (fun _ w' => Hp.cl H w') ?_ ?_
  · refine max_by ?_
    exact ⟨(), ⟨rfl, trivial⟩, H⟩
  rintro ⟨⟩ u w3 H1
  replace H : Hp _ _ _ _ _ := H1
  clear H1
  refine cut_rule (γ := Nat) _ rfl (fun g9 => [(9, .slice (some ⟨g9, 0, none⟩) 1 1)]) (fun g9 w' => Hp w (fun _ => False) w' [own 226 3 (.slice (some ⟨g9, 0, none⟩) 1 1) 1 (flat (encT n) [(.slice A R.length ca, .slice none 0 0)]), own 3 1 (.slice Bb best.length db) best.length (intsI best), blk g2 91 (mc n (.slice A R.length ca))] [MatR S (.slice A R.length ca) R]) ?_ ?_
  · refine H.loadAll 1 rfl agg91 size91 ?_
    refine build226 ?_
    refine H.buildSl T227 (cs := (encT n (.slice A R.length ca, .slice none 0 0)).toArray) (by decide) (by decide) (by kernel_rfl) ?_
    clear H
    intro g9 w4 H
    exact ⟨g9, ⟨rfl, trivial⟩, H.blkOwn (l := 1) (sz := 3) rfl (by unfold maxLen; omega)⟩
  clear H
  rintro g9 u w4 H
  replace H : Hp _ _ _ _ _ := H
  refine cut_rule (γ := Unit) _ rfl (fun _ => [(10, .int .i64 0)]) (fun _ w' => Hp.cl H w') ⟨(), ⟨rfl, trivial⟩, H⟩ ?_
  rintro ⟨⟩ u w5 H1
  replace H : Hp _ _ _ _ _ := H1
  clear H1
  have Hs : ∃ (S0 Sb : Nat → Prop), Hp w (fun _ => False) w5 [own 226 3 (.slice (some ⟨g9, 0, none⟩) 1 1) 1 (flat (encT n) [(.slice A R.length ca, .slice none 0 0)]), blk g2 91 (mc n (.slice A R.length ca))] [stkR S0 [(.slice A R.length ca, .slice none 0 0)] [(R, [])], sl Sb (.slice Bb best.length db) 1 best.length (intsI best)] := by
    have H2 := (H.front 1 rfl).freeze
    have hb := own_sl (H2.ro 0 rfl)
    have hmR := H2.ro 1 rfl
    refine ⟨allF [own 3 1 (.slice Bb best.length db) best.length (intsI best), MatR S (.slice A R.length ca) R], fun g => (Value.slice Bb best.length db).ownBlock = some g, ?_⟩
    have H3 := H2.addAll (sl (fun g => (Value.slice Bb best.length db).ownBlock = some g) (.slice Bb best.length db) 1 best.length (intsI best)) (fun g hg => ⟨_, .head _, hg⟩) hb
    have H4 := H3.addAll (stkR (allF [own 3 1 (.slice Bb best.length db) best.length (intsI best), MatR S (.slice A R.length ca) R]) [(.slice A R.length ca, .slice none 0 0)] [(R, [])]) (fun g ⟨s, hs, hg⟩ => ⟨s, .tail _ hs, hg⟩)
      ((stkOk.nil _ _).snoc (MatR.mono hmR fun g hg => ⟨_, .tail _ (.head _), hg⟩) rfl ⟨rfl, none, 0, rfl, Nat.le_refl _, .inl rfl⟩)
    exact H4.weakenRO fun r hr => by
      rcases List.mem_cons.1 hr with rfl | hr
      · exact .head _
      · rw [List.mem_singleton] at hr; subst hr; exact .tail _ (.head _)
  clear H
  obtain ⟨S0, Sb0, H⟩ := Hs
  refine cut_rule (γ := Option Addr × Nat × List Int × Nat) _ rfl (fun (B, d, best, k) => [(7, .slice B best.length d), (10, .int .i64 (k : Int))]) (fun (B, d, best, k) w' => (k ≤ m ∧ best.length ≤ 4000 ∧ FewInv n R best k []) ∧ (∃ Sb, Hp w (fun _ => False) w' [blk g2 91 (mc n (.slice A R.length ca))] [sl Sb (.slice B best.length d) 1 best.length (intsI best)])) ?_ ?_
  · refine loop_rule (γ := Option Addr × Nat × List (Value × Value) × Stk × List Int × Option Addr × Nat × Nat × (Nat → Prop) × (Nat → Prop)) _ rfl
      (fun (A9, d9, ts, _, best, Bb, db, k, _) => [(9, .slice A9 ts.length d9), (7, .slice Bb best.length db), (10, .int .i64 (k : Int))])
      (fun (A9, d9, ts, st, best, Bb, db, k, S0, Sb) w' => (best.length ≤ 4000 ∧ FewInv n R best k st) ∧ Hp w (fun _ => False) w' [own 226 3 (.slice A9 ts.length d9) ts.length (flat (encT n) ts), blk g2 91 (mc n (.slice A R.length ca))] [stkR S0 ts st, sl Sb (.slice Bb best.length db) 1 best.length (intsI best)])
      (fun (_, _, _, st, _) => heftS n st) (some ⟨g9, 0, none⟩, 1, [(.slice A R.length ca, .slice none 0 0)], [(R, [])], best, Bb, db, 0, S0, Sb0) ⟨rfl, rfl, rfl, trivial⟩ ⟨⟨hb40, few_start hright hsolve⟩, H⟩ ?_
    clear H hsolve hGe he hb40
    rintro ⟨A9, d9, ts, st, best, Bb, db, k, S0, Sb⟩ u w6 ⟨⟨hb40, hfew⟩, H⟩
    replace H : Hp _ _ _ _ _ := H
    have hstk : stkOk S0 w6 ts st := H.ro 0 rfl
    have hlen := hstk.1
    have hkm : k + 1 ≤ 2 ^ n := by have := hfew.steps; have := Nat.one_le_two_pow (n := n); omega
    refine len_sl Try.underlying227 ?_
    refine cond_dec (fun h7 => ?_) (fun h7 => ?_)
    · rcases List.eq_nil_or_concat ts with rfl | ⟨ts0, a, hts⟩
      · simp at h7
      rcases List.eq_nil_or_concat st with rfl | ⟨st0, x, hst⟩
      · simp at hlen; rw [hlen] at h7; simp at h7
      rw [List.concat_eq_append] at hts hst
      subst hts; subst hst
      obtain ⟨hstk0, hma, Bx, cx, hax, hslx⟩ := hstk.pop
      have hl0 : ts0.length = st0.length := hstk0.1
      obtain ⟨Ax, cax, hax1⟩ := hma.form
      obtain ⟨a1, a2⟩ := a
      simp only at hax hax1
      subst hax; subst hax1
      have hxr := hfew.right x (by simp)
      have hxl : x.1.length ≤ 1000000 := Nat.le_trans (hfew.rows x (by simp)) hl
      have hxT : x.2.length ≤ 1000 := by
        have h1 := hfew.len x (by simp)
        have h2 : (n + 1) * n ≤ 31 * 30 := Nat.mul_le_mul (by omega) (by omega)
        omega
      have hhi : ts0.length ≤ 31 := by have := hfew.high st0.length x (by simp); omega
      have hxlr : ∀ r ∈ x.1, r.length ≤ 1000000000 := fun r hr => by have := row_len hxr hr; omega
      have hxb : rightB n x.1 = true := rightB_iff.2 hxr
      have hlts : (ts0 ++ [(Value.slice Ax x.1.length cax, Value.slice Bx x.2.length cx)]).length = ts0.length + 1 := by simp
      have hw1 : IntKind.i64.wrap (((ts0 ++ [(Value.slice Ax x.1.length cax, Value.slice Bx x.2.length cx)]).length : Int) - 1) = (ts0.length : Int) := by rw [hlts, wrap_i64_in (by omega) (by omega)]; omega
      refine cut_rule (γ := Nat) _ rfl (fun g11 => [(11, .pointer (some ⟨g11, 0, none⟩))]) (fun g11 w' => Hp w (fun _ => False) w' [blk g11 226 (encT n (.slice Ax x.1.length cax, .slice Bx x.2.length cx)).toArray, own 226 3 (.slice A9 (ts0 ++ [(Value.slice Ax x.1.length cax, Value.slice Bx x.2.length cx)]).length d9) (ts0 ++ [(Value.slice Ax x.1.length cax, Value.slice Bx x.2.length cx)]).length (flat (encT n) (ts0 ++ [(Value.slice Ax x.1.length cax, Value.slice Bx x.2.length cx)])), blk g2 91 (mc n (.slice A R.length ca))] [stkR S0 (ts0 ++ [(Value.slice Ax x.1.length cax, Value.slice Bx x.2.length cx)]) (st0 ++ [x]), sl Sb (.slice Bb best.length db) 1 best.length (intsI best)]) ?_ ?_
      · obtain ⟨g9', rfl⟩ := own_base (H.get 0 rfl) (by omega)
        refine len_sl Try.underlying227 ?_
        refine idxAddr_sl Try.underlying227 (s := 3) size226 ts0.length hw1 (by omega) (o' := 0 + ts0.length * 3) rfl ?_
        refine H.loadOwnAgg 0 rfl (encT_len n) agg226 size226 ts0.length (by omega) (a := (Value.slice Ax x.1.length cax, Value.slice Bx x.2.length cx)) (by simp) ?_
        refine H.alloc 226 zero226 rfl ?_
        clear H
        intro g11 w7 H
        refine H.storeAll 0 rfl size226 rfl (fun v hv => by simp [encT] at hv; rcases hv with rfl | rfl | rfl <;> rfl) ?_
        clear H
        intro w8 H
        exact ⟨g11, ⟨rfl, trivial⟩, H⟩
      clear H hstk hstk0 hma hslx
      rintro g11 u w7 H
      replace H : Hp _ _ _ _ _ := H
      refine cut_rule (γ := Option Addr × Nat) _ rfl (fun (A9, d9) => [(9, .slice A9 ts0.length d9)]) (fun (A9, d9) w' => Hp w (fun _ => False) w' [blk g11 226 (encT n (.slice Ax x.1.length cax, .slice Bx x.2.length cx)).toArray, own 226 3 (.slice A9 ts0.length d9) ts0.length (flat (encT n) ts0), blk g2 91 (mc n (.slice A R.length ca))] [stkR S0 (ts0 ++ [(Value.slice Ax x.1.length cax, Value.slice Bx x.2.length cx)]) (st0 ++ [x]), sl Sb (.slice Bb best.length db) 1 best.length (intsI best)]) ?_ ?_
      · refine len_sl Try.underlying227 ?_
        refine H.ownTake 1 T227 rfl hw1 (by omega) (by omega) ?_
        have e : (flat (encT n) (ts0 ++ [(Value.slice Ax x.1.length cax, Value.slice Bx x.2.length cx)])).take (ts0.length * 3) = flat (encT n) ts0 := by
          rw [flat_snoc, List.take_left' (flat_length (encT_len n) ts0)]
        rw [e]
        clear H
        intro A' c' H
        exact ⟨(A', c'), ⟨rfl, trivial⟩, H⟩
      clear H
      rintro ⟨A9, d9⟩ u w8 H
      replace H : Hp _ _ _ _ _ := H
      have hpart : ∀ (j : Nat) (v : Value), ([.int .i64 (n : Int), .slice Ax x.1.length cax] : List Value)[j]? = some v → (encT n (.slice Ax x.1.length cax, .slice Bx x.2.length cx)).toArray[j]? = some v := fun j v hj => by
        match j, hj with
        | 0, hj => exact hj
        | 1, hj => exact hj
        | j + 2, hj => simp at hj
      have hpop : stkOk S0 w8 (ts0 ++ [(Value.slice Ax x.1.length cax, Value.slice Bx x.2.length cx)]) (st0 ++ [x]) := H.ro 0 rfl
      have hmx : matOk S0 (.slice Ax x.1.length cax) x.1 w8 := hpop.pop.2.1
      have hSl : ∀ g, S0 g → g < w8.heap.size := H.rlt _ (.head _)
      refine cut_rule (γ := Unit) _ rfl (fun _ => []) (fun _ w' => bareB x.1 = false ∧ Hp.cl H w') ?_ ?_
      · refine fieldAddr_by (fa226_0 _) ?_
        refine load_part (H.get 0 rfl) [.int .i64 (n : Int), .slice Ax x.1.length cax] agg91 size91 hpart ?_
        refine call_fn (c189 n x.1 _ _ (by omega) (MatR.mono hmx hSl)) ?_
        rintro _ w9 ⟨rfl, hk⟩
        replace H := H.same hk
        clear hk
        refine cond_split (fun hb => ?_) (fun hb => ?_)
        · have hb' : [] ∈ x.1 := bareB_iff.1 (by simpa using hb)
          have hpop : stkOk S0 w9 (ts0 ++ [(Value.slice Ax x.1.length cax, Value.slice Bx x.2.length cx)]) (st0 ++ [x]) := H.ro 0 rfl
          have H2 := ((H.forget).addAll (stkR S0 ts0 st0) (fun g hg => ⟨_, .head _, hg⟩) hpop.pop.1).weakenRO (M' := [stkR S0 ts0 st0, sl Sb (.slice Bb best.length db) 1 best.length (intsI best)]) (fun r hr => by
            rcases List.mem_cons.1 hr with rfl | hr
            · exact .head _
            · rw [List.mem_singleton] at hr; subst hr; exact .tail _ (.tail _ (.head _)))
          exact ⟨(A9, d9, ts0, st0, best, Bb, db, k, S0, Sb), heft_pop n st0 x, ⟨rfl, rfl, rfl, trivial⟩, ⟨hb40, few_bare hfew hb'⟩, H2⟩
        · exact ⟨(), trivial, by simpa using hb, H⟩
      rintro ⟨⟩ u w9 ⟨hxbare, H1⟩
      replace H : Hp w (fun _ => False) w9 [blk g11 226 (encT n (.slice Ax x.1.length cax, .slice Bx x.2.length cx)).toArray, own 226 3 (.slice A9 ts0.length d9) ts0.length (flat (encT n) ts0), blk g2 91 (mc n (.slice A R.length ca))] [stkR S0 (ts0 ++ [(Value.slice Ax x.1.length cax, Value.slice Bx x.2.length cx)]) (st0 ++ [x]), sl Sb (.slice Bb best.length db) 1 best.length (intsI best)] := H1
      clear H1 hpop hmx hSl
      obtain ⟨e1, e2, e3, e4⟩ := red_yes hxb
      have hEi := end_inv hxr
      have hEb : [] ∉ (endS n (x.1, [])).1 := run_bare (s := (x.1, [])) (fun h => by rw [bareB_iff.2 h] at hxbare; cases hxbare) _
      have hEl : (endS n (x.1, [])).1.length ≤ x.1.length := run_len (s := (x.1, [])) _
      have hTl := risen_len_le n (endS n (x.1, [])).2
      have hdone := few_done hfew
      have hcut := few_cut hfew
      have hbr := fun c => few_branch hfew (c := c)
      have hc89 := fun u hS0 h => c89 n x.1 (.slice Ax x.1.length cax) S0 u (by omega) hxlr h hS0
      rw [e1, e2, e3, e4] at hc89
      have hEr := hEi.right
      clear hEi e1 e2 e3 e4
      generalize (endS n (x.1, [])).1 = E at *
      generalize risen n (endS n (x.1, [])).2 = TT at *
      have hElr : ∀ r ∈ E, r.length ≤ 1000000000 := fun r hr => by have := row_len hEr hr; omega
      have hEL : E.length ≤ 1000000 := by omega
      have hT15 : (x.2 ++ TT).length = x.2.length + TT.length := List.length_append
      refine cut_rule (γ := Option Addr × Nat × Nat × Option Addr × Nat × (Nat → Prop)) _ rfl (fun (B12, d12, g13, _) => [(12, .slice B12 TT.length d12), (13, .pointer (some ⟨g13, 0, none⟩))])
        (fun (B12, d12, g13, AE, cE, S1) w' => Hp w (fun _ => False) w' [blk g13 91 (mc n (.slice AE E.length cE)), own 3 1 (.slice B12 TT.length d12) TT.length (intsI TT), blk g11 226 (encT n (.slice Ax x.1.length cax, .slice Bx x.2.length cx)).toArray, own 226 3 (.slice A9 ts0.length d9) ts0.length (flat (encT n) ts0), blk g2 91 (mc n (.slice A R.length ca))] [MatR S1 (.slice AE E.length cE) E, stkR S0 (ts0 ++ [(Value.slice Ax x.1.length cax, Value.slice Bx x.2.length cx)]) (st0 ++ [x]), sl Sb (.slice Bb best.length db) 1 best.length (intsI best)]) ?_ ?_
      · refine fieldAddr_by (fa226_0 _) ?_
        refine load_part (H.get 0 rfl) [.int .i64 (n : Int), .slice Ax x.1.length cax] agg91 size91 hpart ?_
        have hpop : stkOk S0 w9 (ts0 ++ [(Value.slice Ax x.1.length cax, Value.slice Bx x.2.length cx)]) (st0 ++ [x]) := H.ro 0 rfl
        refine call_fn (hc89 _ (H.rlt _ (.head _)) hpop.pop.2.1) ?_
        rintro _ w10 ⟨B12, d12, v', S1, rfl, H2, hS1⟩
        obtain ⟨AE, cE, hvE⟩ := (H2.ro 0 rfl).form
        subst hvE
        have H3 := H.merge H2 (fun r hr g hg => by
          rw [List.mem_singleton] at hr
          subst hr
          exact (hS1 g hg).imp id fun h => ⟨_, .head _, h⟩)
        clear H H2
        refine H3.alloc 91 zero91 rfl ?_
        clear H3
        intro g13 w11 H
        refine H.storeAll 0 rfl size91 rfl (fun v hv => mc_one v hv) ?_
        clear H
        intro w12 H
        exact ⟨(B12, d12, g13, AE, cE, S1), ⟨rfl, rfl, trivial⟩, H⟩
      clear H hc89
      rintro ⟨B12, d12, g13, AE, cE, S1⟩ u w10 H
      replace H : Hp _ _ _ _ _ := H
      refine cut_rule (γ := Option Addr × Nat) _ rfl (fun (B15, d15) => [(15, .slice B15 (x.2 ++ TT).length d15)]) (fun (B15, d15) w' => Hp w (fun _ => False) w' [blk g13 91 (mc n (.slice AE E.length cE)), own 226 3 (.slice A9 ts0.length d9) ts0.length (flat (encT n) ts0), blk g2 91 (mc n (.slice A R.length ca))] [own 3 1 (.slice B15 (x.2 ++ TT).length d15) (x.2 ++ TT).length (intsI (x.2 ++ TT)), MatR S1 (.slice AE E.length cE) E, stkR S0 (ts0 ++ [(Value.slice Ax x.1.length cax, Value.slice Bx x.2.length cx)]) (st0 ++ [x]), sl Sb (.slice Bb best.length db) 1 best.length (intsI best)]) ?_ ?_
      · refine Hp.buildNil H T32 ?_
        clear H
        intro g14 w13 H
        refine fieldAddr_by (fa226_1 _) ?_
        refine H.load 3 rfl aggrow rfl ?_
        have hpop : stkOk S0 w13 (ts0 ++ [(Value.slice Ax x.1.length cax, Value.slice Bx x.2.length cx)]) (st0 ++ [x]) := H.ro 1 rfl
        obtain ⟨_, _, Bx', cx', hax, hslx⟩ := hpop.pop
        injection hax with hax1 _ hax2
        subst hax1; subst hax2
        refine Hp.appendCopy H 0 T32 rfl (sl.mono hslx (H.rlt _ (.tail _ (.head _)))) (intsI_one _) (by omega) (by omega) ?_
        clear H
        intro A15 d15 w14 H
        refine H.appendSl 0 T32 rfl (own_Sl (H.get 2 rfl)) (intsI_one _) (by omega) (by omega) ?_
        clear H
        intro B15 d15 w15 H
        rw [← hT15, ← intsI_append] at H
        replace H := H.freeze
        exact ⟨(B15, d15), ⟨by rw [hT15]; rfl, trivial⟩, (((H.front 4 rfl).front 4 rfl).front 2 rfl).only3⟩
      clear H
      rintro ⟨B15, d15⟩ u w11 H
      replace H : Hp _ _ _ _ _ := H
      have hM1 : ∀ (u : World) (L : List Res), Hp w (fun _ => False) u L [own 3 1 (.slice B15 (x.2 ++ TT).length d15) (x.2 ++ TT).length (intsI (x.2 ++ TT)), MatR S1 (.slice AE E.length cE) E, stkR S0 (ts0 ++ [(Value.slice Ax x.1.length cax, Value.slice Bx x.2.length cx)]) (st0 ++ [x]), sl Sb (.slice Bb best.length db) 1 best.length (intsI best)] → Hp w (fun _ => False) u L [stkR S0 ts0 st0, sl Sb (.slice Bb best.length db) 1 best.length (intsI best)] := fun u L H => by
        have hpop : stkOk S0 u (ts0 ++ [(Value.slice Ax x.1.length cax, Value.slice Bx x.2.length cx)]) (st0 ++ [x]) := H.ro 2 rfl
        refine (H.addAll (stkR S0 ts0 st0) (fun g hg => ⟨_, .tail _ (.tail _ (.head _)), hg⟩) hpop.pop.1).weakenRO fun r hr => ?_
        rcases List.mem_cons.1 hr with rfl | hr
        · exact .head _
        · rw [List.mem_singleton] at hr; subst hr; exact .tail _ (.tail _ (.tail _ (.tail _ (.head _))))
      have hM2 : ∀ (u : World) (L : List Res), Hp w (fun _ => False) u L [own 3 1 (.slice B15 (x.2 ++ TT).length d15) (x.2 ++ TT).length (intsI (x.2 ++ TT)), MatR S1 (.slice AE E.length cE) E, stkR S0 (ts0 ++ [(Value.slice Ax x.1.length cax, Value.slice Bx x.2.length cx)]) (st0 ++ [x]), sl Sb (.slice Bb best.length db) 1 best.length (intsI best)] → Hp w (fun _ => False) u L [stkR S0 ts0 st0, sl (fun g => (Value.slice B15 (x.2 ++ TT).length d15).ownBlock = some g) (.slice B15 (x.2 ++ TT).length d15) 1 (x.2 ++ TT).length (intsI (x.2 ++ TT))] := fun u L H => by
        have hpop : stkOk S0 u (ts0 ++ [(Value.slice Ax x.1.length cax, Value.slice Bx x.2.length cx)]) (st0 ++ [x]) := H.ro 2 rfl
        have h15 := own_sl (H.ro 0 rfl)
        have H2 := H.addAll (sl (fun g => (Value.slice B15 (x.2 ++ TT).length d15).ownBlock = some g) (.slice B15 (x.2 ++ TT).length d15) 1 (x.2 ++ TT).length (intsI (x.2 ++ TT))) (fun g hg => ⟨_, .head _, hg⟩) h15
        refine (H2.addAll (stkR S0 ts0 st0) (fun g hg => ⟨_, .tail _ (.tail _ (.tail _ (.head _))), hg⟩) hpop.pop.1).weakenRO fun r hr => ?_
        rcases List.mem_cons.1 hr with rfl | hr
        · exact .head _
        · rw [List.mem_singleton] at hr; subst hr; exact .tail _ (.head _)
      refine cut_rule (γ := Unit) _ rfl (fun _ => [(7, .slice Bb best.length db)]) (fun _ w' => 0 < E.length ∧ Hp w (fun _ => False) w' [blk g13 91 (mc n (.slice AE E.length cE)), own 226 3 (.slice A9 ts0.length d9) ts0.length (flat (encT n) ts0), blk g2 91 (mc n (.slice A R.length ca))] [own 3 1 (.slice B15 (x.2 ++ TT).length d15) (x.2 ++ TT).length (intsI (x.2 ++ TT)), MatR S1 (.slice AE E.length cE) E, stkR S0 (ts0 ++ [(Value.slice Ax x.1.length cax, Value.slice Bx x.2.length cx)]) (st0 ++ [x]), sl Sb (.slice Bb best.length db) 1 best.length (intsI best)]) ?_ ?_
      · refine fieldAddr_by (fa91_1 _) ?_
        refine H.load 0 rfl agg89 rfl ?_
        refine len_sl Try.underlying89 ?_
        refine cond_beq (fun h10 => ?_) (fun h10 => ?_)
        · have hE0 : E = [] := List.length_eq_zero_iff.1 (by omega)
          have hd := hdone hE0
          refine len_sl Try.underlying32 ?_
          refine len_sl Try.underlying32 ?_
          refine cond_dec (fun h11 => ?_) (fun h11 => ?_)
          · rw [if_pos (by omega)] at hd
            exact ⟨(A9, d9, ts0, st0, x.2 ++ TT, B15, d15, k, S0, _), heft_pop n st0 x, ⟨rfl, rfl, rfl, trivial⟩, ⟨by omega, hd⟩, hM2 _ _ H.forget⟩
          · rw [if_neg (by omega)] at hd
            exact ⟨(A9, d9, ts0, st0, best, Bb, db, k, S0, Sb), heft_pop n st0 x, ⟨rfl, rfl, rfl, trivial⟩, ⟨hb40, hd⟩, hM1 _ _ H.forget⟩
        · exact ⟨(), ⟨rfl, trivial⟩, by omega, H⟩
      clear H hdone
      rintro ⟨⟩ u w12 ⟨hE0, H⟩
      replace H : Hp _ _ _ _ _ := H
      have hbl := bound_le E []
      have hw2 : IntKind.i64.wrap (((x.2 ++ TT).length : Int) + ((boundS E [] : Nat) : Int)) = (((x.2 ++ TT).length + boundS E [] : Nat) : Int) := by rw [wrap_i64_in (by omega) (by omega)]; omega
      refine cut_rule (γ := Unit) _ rfl (fun _ => []) (fun _ w' => Hp w (fun _ => False) w' [blk g13 91 (mc n (.slice AE E.length cE)), own 226 3 (.slice A9 ts0.length d9) ts0.length (flat (encT n) ts0), blk g2 91 (mc n (.slice A R.length ca))] [own 3 1 (.slice B15 (x.2 ++ TT).length d15) (x.2 ++ TT).length (intsI (x.2 ++ TT)), MatR S1 (.slice AE E.length cE) E, stkR S0 (ts0 ++ [(Value.slice Ax x.1.length cax, Value.slice Bx x.2.length cx)]) (st0 ++ [x]), sl Sb (.slice Bb best.length db) 1 best.length (intsI best)]) ?_ ?_
      · refine len_sl Try.underlying32 ?_
        refine H.loadAll 0 rfl agg91 size91 ?_
        refine call_fn (c188 n E _ _ (by omega) hElr (MatR.mono (H.ro 1 rfl) (H.rlt _ (.tail _ (.head _))))) ?_
        rintro _ w13 ⟨rfl, hk⟩
        replace H := H.same hk
        clear hk
        refine len_sl Try.underlying32 ?_
        refine cond_dec (fun h12 => ?_) (fun h12 => ?_)
        · rw [hw2] at h12
          exact ⟨(A9, d9, ts0, st0, best, Bb, db, k, S0, Sb), heft_pop n st0 x, ⟨rfl, rfl, rfl, trivial⟩, ⟨hb40, hcut (by omega)⟩, hM1 _ _ H.forget⟩
        · exact ⟨(), trivial, H⟩
      clear H hcut
      rintro ⟨⟩ u w13 H
      replace H : Hp _ _ _ _ _ := H
      refine cut_rule (γ := Unit) _ rfl (fun _ => []) (fun _ w' => Hp w (fun _ => False) w' [blk g13 91 (mc n (.slice AE E.length cE)), own 226 3 (.slice A9 ts0.length d9) ts0.length (flat (encT n) ts0), blk g2 91 (mc n (.slice A R.length ca))] [own 3 1 (.slice B15 (x.2 ++ TT).length d15) (x.2 ++ TT).length (intsI (x.2 ++ TT)), MatR S1 (.slice AE E.length cE) E, stkR S0 (ts0 ++ [(Value.slice Ax x.1.length cax, Value.slice Bx x.2.length cx)]) (st0 ++ [x]), sl Sb (.slice Bb best.length db) 1 best.length (intsI best)]) ?_ ?_
      · refine cond_no (beq_eq_false_iff_ne.2 (by omega)) ?_
        exact ⟨(), trivial, H⟩
      clear H
      rintro ⟨⟩ u w14 H
      replace H : Hp _ _ _ _ _ := H
      refine cut_rule (γ := Unit) _ rfl (fun _ => [(10, .int .i64 ((k + 1 : Nat) : Int))]) (fun _ w' => Hp w (fun _ => False) w' [blk g13 91 (mc n (.slice AE E.length cE)), own 226 3 (.slice A9 ts0.length d9) ts0.length (flat (encT n) ts0), blk g2 91 (mc n (.slice A R.length ca))] [own 3 1 (.slice B15 (x.2 ++ TT).length d15) (x.2 ++ TT).length (intsI (x.2 ++ TT)), MatR S1 (.slice AE E.length cE) E, stkR S0 (ts0 ++ [(Value.slice Ax x.1.length cax, Value.slice Bx x.2.length cx)]) (st0 ++ [x]), sl Sb (.slice Bb best.length db) 1 best.length (intsI best)]) ⟨(), ⟨up (by omega), trivial⟩, H⟩ ?_
      clear H
      rintro ⟨⟩ u w15 H
      replace H : Hp _ _ _ _ _ := H
      refine cut_rule (γ := Int) _ rfl (fun c => [(16, .int .i64 c)]) (fun c w' => IsBusy E c ∧ Hp w (fun _ => False) w' [blk g13 91 (mc n (.slice AE E.length cE)), own 226 3 (.slice A9 ts0.length d9) ts0.length (flat (encT n) ts0), blk g2 91 (mc n (.slice A R.length ca))] [own 3 1 (.slice B15 (x.2 ++ TT).length d15) (x.2 ++ TT).length (intsI (x.2 ++ TT)), MatR S1 (.slice AE E.length cE) E, stkR S0 (ts0 ++ [(Value.slice Ax x.1.length cax, Value.slice Bx x.2.length cx)]) (st0 ++ [x]), sl Sb (.slice Bb best.length db) 1 best.length (intsI best)]) ?_ ?_
      · refine H.loadAll 0 rfl agg91 size91 ?_
        refine call_fn (c190 n n E _ _ (by omega) hElr hEr (MatR.mono (H.ro 1 rfl) (H.rlt _ (.tail _ (.head _))))) ?_
        rintro _ w16 ⟨c, rfl, hb, hk⟩
        replace H := H.same hk
        clear hk
        exact ⟨c, ⟨rfl, trivial⟩, hb (some_row hEb hE0), H⟩
      clear H
      rintro c u w16 ⟨hbusy, H⟩
      replace H : Hp _ _ _ _ _ := H
      obtain ⟨hfew2, _, hheft⟩ := hbr c (busy_in hbusy)
      clear hbr
      have hstep : ∀ (A17 : Option Addr) (d17 : Nat) (A14 : Option Addr) (d14 : Nat) (v3 v8 : Value) (S3 S8 : Nat → Prop) (u : World), Hp w (fun _ => False) u [own 226 3 (.slice A17 (ts0.length + 2) d17) (ts0.length + 2) (flat (encT n) ts0 ++ (encT n (v3, Value.slice B15 (x.2 ++ TT).length d15) ++ encT n (v8, Value.slice A14 ((x.2 ++ TT).length + 1) d14))), own 3 1 (.slice A14 ((x.2 ++ TT).length + 1) d14) ((x.2 ++ TT).length + 1) (intsI (x.2 ++ TT) ++ [.int .i64 c]), blk g2 91 (mc n (.slice A R.length ca))]
          [MatR S8 v8 (withoutM E c), MatR S3 v3 (dropC E c), own 3 1 (.slice B15 (x.2 ++ TT).length d15) (x.2 ++ TT).length (intsI (x.2 ++ TT)), MatR S1 (.slice AE E.length cE) E, stkR S0 (ts0 ++ [(Value.slice Ax x.1.length cax, Value.slice Bx x.2.length cx)]) (st0 ++ [x]), sl Sb (.slice Bb best.length db) 1 best.length (intsI best)] →
          ∃ S' Sb', Hp w (fun _ => False) u [own 226 3 (.slice A17 (ts0 ++ [(v3, Value.slice B15 (x.2 ++ TT).length d15), (v8, Value.slice A14 ((x.2 ++ TT).length + 1) d14)]).length d17) (ts0 ++ [(v3, Value.slice B15 (x.2 ++ TT).length d15), (v8, Value.slice A14 ((x.2 ++ TT).length + 1) d14)]).length (flat (encT n) (ts0 ++ [(v3, Value.slice B15 (x.2 ++ TT).length d15), (v8, Value.slice A14 ((x.2 ++ TT).length + 1) d14)])), blk g2 91 (mc n (.slice A R.length ca))]
            [stkR S' (ts0 ++ [(v3, Value.slice B15 (x.2 ++ TT).length d15), (v8, Value.slice A14 ((x.2 ++ TT).length + 1) d14)]) (st0 ++ [(dropC E c, x.2 ++ TT), (withoutM E c, (x.2 ++ TT) ++ [c])]), sl Sb' (.slice Bb best.length db) 1 best.length (intsI best)] := by
        intro A17 d17 A14 d14 v3 v8 S3 S8 u H
        have el : (ts0 ++ [(v3, Value.slice B15 (x.2 ++ TT).length d15), (v8, Value.slice A14 ((x.2 ++ TT).length + 1) d14)]).length = ts0.length + 2 := by simp
        have ef : flat (encT n) (ts0 ++ [(v3, Value.slice B15 (x.2 ++ TT).length d15), (v8, Value.slice A14 ((x.2 ++ TT).length + 1) d14)]) = flat (encT n) ts0 ++ (encT n (v3, .slice B15 (x.2 ++ TT).length d15) ++ encT n (v8, .slice A14 ((x.2 ++ TT).length + 1) d14)) := by simp only [flat, List.flatMap_append, List.flatMap_cons, List.flatMap_nil, List.append_nil]
        rw [el, ef]
        have eT : (x.2 ++ TT).length + 1 = ((x.2 ++ TT) ++ [c]).length := (show ∀ l : List Int, l.length + 1 = (l ++ [c]).length from fun l => by simp) _
        have H2 := (H.front 1 rfl).freeze
        have h14 := own_sl (H2.ro 0 rfl)
        have h8 : matOk S8 v8 (withoutM E c) u := H2.ro 1 rfl
        have h3 : matOk S3 v3 (dropC E c) u := H2.ro 2 rfl
        have h15 := own_sl (H2.ro 3 rfl)
        have hpop : stkOk S0 u (ts0 ++ [(Value.slice Ax x.1.length cax, Value.slice Bx x.2.length cx)]) (st0 ++ [x]) := H2.ro 5 rfl
        have e0 : ∀ (a b : Value × Value), ts0 ++ [a, b] = (ts0 ++ [a]) ++ [b] := fun a b => by simp
        have e0' : ∀ (a b : Mat × List Int), st0 ++ [a, b] = (st0 ++ [a]) ++ [b] := fun a b => by simp
        have hok : stkOk (allF [own 3 1 (.slice A14 ((x.2 ++ TT).length + 1) d14) ((x.2 ++ TT).length + 1) (intsI (x.2 ++ TT) ++ [Value.int .i64 c]), MatR S8 v8 (withoutM E c), MatR S3 v3 (dropC E c), own 3 1 (.slice B15 (x.2 ++ TT).length d15) (x.2 ++ TT).length (intsI (x.2 ++ TT)), MatR S1 (.slice AE E.length cE) E, stkR S0 (ts0 ++ [(Value.slice Ax x.1.length cax, Value.slice Bx x.2.length cx)]) (st0 ++ [x]), sl Sb (.slice Bb best.length db) 1 best.length (intsI best)]) u (ts0 ++ [(v3, Value.slice B15 (x.2 ++ TT).length d15), (v8, Value.slice A14 ((x.2 ++ TT).length + 1) d14)]) (st0 ++ [(dropC E c, x.2 ++ TT), (withoutM E c, (x.2 ++ TT) ++ [c])]) := by
          rw [e0, e0']
          refine stkOk.snoc (a := (v8, _)) (x := (withoutM E c, _)) (stkOk.snoc (a := (v3, _)) (x := (dropC E c, _)) (hpop.pop.1.mono fun g hg => ⟨_, .tail _ (.tail _ (.tail _ (.tail _ (.tail _ (.head _))))), hg⟩) (MatR.mono h3 fun g hg => ⟨_, .tail _ (.tail _ (.head _)), hg⟩) rfl (sl.mono h15 fun g hg => ⟨_, .tail _ (.tail _ (.tail _ (.head _))), hg⟩)) (MatR.mono h8 fun g hg => ⟨_, .tail _ (.head _), hg⟩) (B := A14) (c := d14) (by rw [← eT]) ?_
          rw [← eT, intsI_snoc]
          exact sl.mono h14 fun g hg => ⟨_, .head _, hg⟩
        have H4 := H2.addAll (stkR (allF [own 3 1 (.slice A14 ((x.2 ++ TT).length + 1) d14) ((x.2 ++ TT).length + 1) (intsI (x.2 ++ TT) ++ [Value.int .i64 c]), MatR S8 v8 (withoutM E c), MatR S3 v3 (dropC E c), own 3 1 (.slice B15 (x.2 ++ TT).length d15) (x.2 ++ TT).length (intsI (x.2 ++ TT)), MatR S1 (.slice AE E.length cE) E, stkR S0 (ts0 ++ [(Value.slice Ax x.1.length cax, Value.slice Bx x.2.length cx)]) (st0 ++ [x]), sl Sb (.slice Bb best.length db) 1 best.length (intsI best)]) (ts0 ++ [(v3, Value.slice B15 (x.2 ++ TT).length d15), (v8, Value.slice A14 ((x.2 ++ TT).length + 1) d14)]) (st0 ++ [(dropC E c, x.2 ++ TT), (withoutM E c, (x.2 ++ TT) ++ [c])])) (fun g hg => hg) hok
        refine ⟨(allF [own 3 1 (.slice A14 ((x.2 ++ TT).length + 1) d14) ((x.2 ++ TT).length + 1) (intsI (x.2 ++ TT) ++ [Value.int .i64 c]), MatR S8 v8 (withoutM E c), MatR S3 v3 (dropC E c), own 3 1 (.slice B15 (x.2 ++ TT).length d15) (x.2 ++ TT).length (intsI (x.2 ++ TT)), MatR S1 (.slice AE E.length cE) E, stkR S0 (ts0 ++ [(Value.slice Ax x.1.length cax, Value.slice Bx x.2.length cx)]) (st0 ++ [x]), sl Sb (.slice Bb best.length db) 1 best.length (intsI best)]), Sb, H4.weakenRO fun r hr => ?_⟩
        rcases List.mem_cons.1 hr with rfl | hr
        · exact .head _
        · rw [List.mem_singleton] at hr; subst hr
          exact .tail _ (.tail _ (.tail _ (.tail _ (.tail _ (.tail _ (.tail _ (.head _)))))))
      have encP_one : ∀ (A3 : Option Addr) (l3 c3 : Nat) (A8 : Option Addr) (l8 c8 : Nat) (A14 : Option Addr) (l14 d14 : Nat), ∀ v ∈ (encP n A3 l3 c3 (.slice B15 (x.2 ++ TT).length d15) (.slice A8 l8 c8, .slice A14 l14 d14)).toList, v.oneCell' = true := fun A3 l3 c3 A8 l8 c8 A14 l14 d14 v hv => by
        simp [encP, encT] at hv
        rcases hv with rfl | rfl | rfl | rfl | rfl | rfl <;> rfl
      have hdl := drop_len E c
      have hwlE := without_len E c
      refine draw_orders (fun u => Hp w (fun _ => False) u [blk g13 91 (mc n (.slice AE E.length cE))] [own 3 1 (.slice B15 (x.2 ++ TT).length d15) (x.2 ++ TT).length (intsI (x.2 ++ TT)), MatR S1 (.slice AE E.length cE) E, stkR S0 (ts0 ++ [(Value.slice Ax x.1.length cax, Value.slice Bx x.2.length cx)]) (st0 ++ [x]), sl Sb (.slice Bb best.length db) 1 best.length (intsI best)])
        [([3, 8, 9, 11, 13, 14, 16, 17], [0, 1, 2, 4, 6, 7, 10, 12, 3, 5, 8, 9, 11, 13, 14, 15, 16, 17, 18]), ([3, 8, 9, 13, 11, 14, 16, 17], [0, 1, 2, 4, 6, 7, 10, 12, 3, 5, 8, 9, 13, 11, 14, 15, 16, 17, 18]), ([3, 8, 13, 9, 11, 14, 16, 17], [0, 1, 2, 4, 6, 7, 10, 12, 3, 5, 8, 13, 9, 11, 14, 15, 16, 17, 18]), ([3, 9, 8, 11, 13, 14, 16, 17], [0, 1, 2, 4, 6, 7, 10, 12, 3, 5, 9, 8, 11, 13, 14, 15, 16, 17, 18]), ([3, 9, 8, 13, 11, 14, 16, 17], [0, 1, 2, 4, 6, 7, 10, 12, 3, 5, 9, 8, 13, 11, 14, 15, 16, 17, 18]), ([3, 9, 13, 8, 11, 14, 16, 17], [0, 1, 2, 4, 6, 7, 10, 12, 3, 5, 9, 13, 8, 11, 14, 15, 16, 17, 18]), ([3, 13, 8, 9, 11, 14, 16, 17], [0, 1, 2, 4, 6, 7, 10, 12, 3, 5, 13, 8, 9, 11, 14, 15, 16, 17, 18]), ([3, 13, 9, 8, 11, 14, 16, 17], [0, 1, 2, 4, 6, 7, 10, 12, 3, 5, 13, 9, 8, 11, 14, 15, 16, 17, 18]), ([9, 3, 8, 11, 13, 14, 16, 17], [0, 1, 2, 4, 6, 7, 10, 12, 9, 3, 5, 8, 11, 13, 14, 15, 16, 17, 18]), ([9, 3, 8, 13, 11, 14, 16, 17], [0, 1, 2, 4, 6, 7, 10, 12, 9, 3, 5, 8, 13, 11, 14, 15, 16, 17, 18]), ([9, 3, 13, 8, 11, 14, 16, 17], [0, 1, 2, 4, 6, 7, 10, 12, 9, 3, 5, 13, 8, 11, 14, 15, 16, 17, 18]), ([9, 13, 3, 8, 11, 14, 16, 17], [0, 1, 2, 4, 6, 7, 10, 12, 9, 13, 3, 5, 8, 11, 14, 15, 16, 17, 18]), ([13, 3, 8, 9, 11, 14, 16, 17], [0, 1, 2, 4, 6, 7, 10, 12, 13, 3, 5, 8, 9, 11, 14, 15, 16, 17, 18]), ([13, 3, 9, 8, 11, 14, 16, 17], [0, 1, 2, 4, 6, 7, 10, 12, 13, 3, 5, 9, 8, 11, 14, 15, 16, 17, 18]), ([13, 9, 3, 8, 11, 14, 16, 17], [0, 1, 2, 4, 6, 7, 10, 12, 13, 9, 3, 5, 8, 11, 14, 15, 16, 17, 18])] fol (by kernel_rfl) ((H.front 0 rfl).only.same (Keeps.drew _)) ?_
      replace H := (H.same (Keeps.drew _))
      intro y hy
      simp only [List.mem_cons, List.not_mem_nil, or_false] at hy
      rcases hy with rfl | rfl | rfl | rfl | rfl | rfl | rfl | rfl | rfl | rfl | rfl | rfl | rfl | rfl | rfl
      · refine quiet _ (fun w H => H.loadAll 0 rfl agg91 size91 ⟨rfl, rfl⟩) ?_
        refine quiet _ (fun w H => H.loadAll 0 rfl agg91 size91 ⟨rfl, rfl⟩) ?_
        refine call_fn (c194 n E c _ S1 _ (by omega) hElr (H.ro 1 rfl) (H.rlt _ (.tail _ (.head _)))) ?_
        rintro _ w39 ⟨v3, rfl, hn⟩
        obtain ⟨S3, H2, _⟩ := H.addM (.tail _ (.head _)) hn
        clear H
        have H := H2
        clear H2
        obtain ⟨A3, c3, hv3⟩ := (H.ro 0 rfl).form
        subst hv3
        refine ⟨.inl (H.front 0 rfl).only.forgetRO, ?_⟩
        refine quiet _ (fun w H => build226 ⟨rfl, rfl⟩) ?_
        refine call_fn (c191 n E c _ S1 _ (by omega) hElr (H.ro 2 rfl) (H.rlt _ (.tail _ (.tail _ (.head _))))) ?_
        rintro _ w41 ⟨v8, rfl, hn⟩
        obtain ⟨S8, H2, _⟩ := H.addM (.tail _ (.tail _ (.head _))) hn
        clear H
        have H := H2
        clear H2
        obtain ⟨A8, c8, hv8⟩ := (H.ro 0 rfl).form
        subst hv8
        refine ⟨.inl (H.front 0 rfl).only.forgetRO.forgetRO, ?_⟩
        refine Hp.buildNil H T32 ?_
        clear H
        intro g9 w42 H
        refine ⟨.inl (H.front 1 rfl).only.forgetRO.forgetRO, ?_⟩
        refine Hp.appendCopy H 0 T32 rfl (own_Sl (H.ro 2 rfl)) (intsI_one _) (by omega) (by omega) ?_
        clear H
        intro A11 d11 w43 H
        refine ⟨.inl (H.front 1 rfl).only.forgetRO.forgetRO, ?_⟩
        refine H.buildOne T32 rfl ?_
        clear H
        intro gc w44 H
        refine ⟨.inl (H.front 2 rfl).only.forgetRO.forgetRO, ?_⟩
        refine H.appendBlk 1 0 T32 rfl rfl rfl (fun u hu => by rw [List.mem_singleton.1 hu]; rfl) (by omega) (by omega) ?_
        clear H
        intro A14 d14 w45 H
        refine ⟨.inl (H.front 2 rfl).only.forgetRO.forgetRO, ?_⟩
        refine quiet _ (fun w H => build226 ⟨rfl, rfl⟩) ?_
        refine H.buildSl T227 (cs := encP n A3 (dropC E c).length c3 (.slice B15 (x.2 ++ TT).length d15) (.slice A8 (withoutM E c).length c8, .slice A14 ((x.2 ++ TT).length + 1) d14)) (by decide) (by decide) (by kernel_rfl) ?_
        clear H
        intro g16 w47 H
        refine ⟨.inl (H.front 3 rfl).only.forgetRO.forgetRO, ?_⟩
        refine H.appendBlk 4 0 T227 rfl rfl rfl (encP_one _ _ _ _ _ _ _ _ _) (by omega) (by omega) ?_
        clear H
        intro A17 d17 w48 H
        refine ⟨.inl (H.front 3 rfl).only.forgetRO.forgetRO, ?_⟩
        obtain ⟨S', Sb', H'⟩ := hstep _ _ _ _ _ _ _ _ _ ((((H.front 5 rfl).front 3 rfl).front 5 rfl).only3)
        exact ⟨(_, _, _, _, best, Bb, db, k + 1, S', Sb'), hheft, ⟨by simp; rfl, rfl, rfl, trivial⟩, ⟨hb40, hfew2⟩, H'⟩
      · refine quiet _ (fun w H => H.loadAll 0 rfl agg91 size91 ⟨rfl, rfl⟩) ?_
        refine quiet _ (fun w H => H.loadAll 0 rfl agg91 size91 ⟨rfl, rfl⟩) ?_
        refine call_fn (c194 n E c _ S1 _ (by omega) hElr (H.ro 1 rfl) (H.rlt _ (.tail _ (.head _)))) ?_
        rintro _ w39 ⟨v3, rfl, hn⟩
        obtain ⟨S3, H2, _⟩ := H.addM (.tail _ (.head _)) hn
        clear H
        have H := H2
        clear H2
        obtain ⟨A3, c3, hv3⟩ := (H.ro 0 rfl).form
        subst hv3
        refine ⟨.inl (H.front 0 rfl).only.forgetRO, ?_⟩
        refine quiet _ (fun w H => build226 ⟨rfl, rfl⟩) ?_
        refine call_fn (c191 n E c _ S1 _ (by omega) hElr (H.ro 2 rfl) (H.rlt _ (.tail _ (.tail _ (.head _))))) ?_
        rintro _ w41 ⟨v8, rfl, hn⟩
        obtain ⟨S8, H2, _⟩ := H.addM (.tail _ (.tail _ (.head _))) hn
        clear H
        have H := H2
        clear H2
        obtain ⟨A8, c8, hv8⟩ := (H.ro 0 rfl).form
        subst hv8
        refine ⟨.inl (H.front 0 rfl).only.forgetRO.forgetRO, ?_⟩
        refine Hp.buildNil H T32 ?_
        clear H
        intro g9 w42 H
        refine ⟨.inl (H.front 1 rfl).only.forgetRO.forgetRO, ?_⟩
        refine H.buildOne T32 rfl ?_
        clear H
        intro gc w43 H
        refine ⟨.inl (H.front 2 rfl).only.forgetRO.forgetRO, ?_⟩
        refine Hp.appendCopy H 1 T32 rfl (own_Sl (H.ro 2 rfl)) (intsI_one _) (by omega) (by omega) ?_
        clear H
        intro A11 d11 w44 H
        refine ⟨.inl (H.front 2 rfl).only.forgetRO.forgetRO, ?_⟩
        refine H.appendBlk 1 0 T32 rfl rfl rfl (fun u hu => by rw [List.mem_singleton.1 hu]; rfl) (by omega) (by omega) ?_
        clear H
        intro A14 d14 w45 H
        refine ⟨.inl (H.front 2 rfl).only.forgetRO.forgetRO, ?_⟩
        refine quiet _ (fun w H => build226 ⟨rfl, rfl⟩) ?_
        refine H.buildSl T227 (cs := encP n A3 (dropC E c).length c3 (.slice B15 (x.2 ++ TT).length d15) (.slice A8 (withoutM E c).length c8, .slice A14 ((x.2 ++ TT).length + 1) d14)) (by decide) (by decide) (by kernel_rfl) ?_
        clear H
        intro g16 w47 H
        refine ⟨.inl (H.front 3 rfl).only.forgetRO.forgetRO, ?_⟩
        refine H.appendBlk 4 0 T227 rfl rfl rfl (encP_one _ _ _ _ _ _ _ _ _) (by omega) (by omega) ?_
        clear H
        intro A17 d17 w48 H
        refine ⟨.inl (H.front 3 rfl).only.forgetRO.forgetRO, ?_⟩
        obtain ⟨S', Sb', H'⟩ := hstep _ _ _ _ _ _ _ _ _ ((((H.front 5 rfl).front 3 rfl).front 5 rfl).only3)
        exact ⟨(_, _, _, _, best, Bb, db, k + 1, S', Sb'), hheft, ⟨by simp; rfl, rfl, rfl, trivial⟩, ⟨hb40, hfew2⟩, H'⟩
      · refine quiet _ (fun w H => H.loadAll 0 rfl agg91 size91 ⟨rfl, rfl⟩) ?_
        refine quiet _ (fun w H => H.loadAll 0 rfl agg91 size91 ⟨rfl, rfl⟩) ?_
        refine call_fn (c194 n E c _ S1 _ (by omega) hElr (H.ro 1 rfl) (H.rlt _ (.tail _ (.head _)))) ?_
        rintro _ w39 ⟨v3, rfl, hn⟩
        obtain ⟨S3, H2, _⟩ := H.addM (.tail _ (.head _)) hn
        clear H
        have H := H2
        clear H2
        obtain ⟨A3, c3, hv3⟩ := (H.ro 0 rfl).form
        subst hv3
        refine ⟨.inl (H.front 0 rfl).only.forgetRO, ?_⟩
        refine quiet _ (fun w H => build226 ⟨rfl, rfl⟩) ?_
        refine call_fn (c191 n E c _ S1 _ (by omega) hElr (H.ro 2 rfl) (H.rlt _ (.tail _ (.tail _ (.head _))))) ?_
        rintro _ w41 ⟨v8, rfl, hn⟩
        obtain ⟨S8, H2, _⟩ := H.addM (.tail _ (.tail _ (.head _))) hn
        clear H
        have H := H2
        clear H2
        obtain ⟨A8, c8, hv8⟩ := (H.ro 0 rfl).form
        subst hv8
        refine ⟨.inl (H.front 0 rfl).only.forgetRO.forgetRO, ?_⟩
        refine H.buildOne T32 rfl ?_
        clear H
        intro gc w42 H
        refine ⟨.inl (H.front 1 rfl).only.forgetRO.forgetRO, ?_⟩
        refine Hp.buildNil H T32 ?_
        clear H
        intro g9 w43 H
        refine ⟨.inl (H.front 2 rfl).only.forgetRO.forgetRO, ?_⟩
        refine Hp.appendCopy H 0 T32 rfl (own_Sl (H.ro 2 rfl)) (intsI_one _) (by omega) (by omega) ?_
        clear H
        intro A11 d11 w44 H
        refine ⟨.inl (H.front 2 rfl).only.forgetRO.forgetRO, ?_⟩
        refine H.appendBlk 0 1 T32 rfl rfl rfl (fun u hu => by rw [List.mem_singleton.1 hu]; rfl) (by omega) (by omega) ?_
        clear H
        intro A14 d14 w45 H
        refine ⟨.inl (H.front 2 rfl).only.forgetRO.forgetRO, ?_⟩
        refine quiet _ (fun w H => build226 ⟨rfl, rfl⟩) ?_
        refine H.buildSl T227 (cs := encP n A3 (dropC E c).length c3 (.slice B15 (x.2 ++ TT).length d15) (.slice A8 (withoutM E c).length c8, .slice A14 ((x.2 ++ TT).length + 1) d14)) (by decide) (by decide) (by kernel_rfl) ?_
        clear H
        intro g16 w47 H
        refine ⟨.inl (H.front 3 rfl).only.forgetRO.forgetRO, ?_⟩
        refine H.appendBlk 4 0 T227 rfl rfl rfl (encP_one _ _ _ _ _ _ _ _ _) (by omega) (by omega) ?_
        clear H
        intro A17 d17 w48 H
        refine ⟨.inl (H.front 3 rfl).only.forgetRO.forgetRO, ?_⟩
        obtain ⟨S', Sb', H'⟩ := hstep _ _ _ _ _ _ _ _ _ ((((H.front 5 rfl).front 2 rfl).front 5 rfl).only3)
        exact ⟨(_, _, _, _, best, Bb, db, k + 1, S', Sb'), hheft, ⟨by simp; rfl, rfl, rfl, trivial⟩, ⟨hb40, hfew2⟩, H'⟩
      · refine quiet _ (fun w H => H.loadAll 0 rfl agg91 size91 ⟨rfl, rfl⟩) ?_
        refine quiet _ (fun w H => H.loadAll 0 rfl agg91 size91 ⟨rfl, rfl⟩) ?_
        refine call_fn (c194 n E c _ S1 _ (by omega) hElr (H.ro 1 rfl) (H.rlt _ (.tail _ (.head _)))) ?_
        rintro _ w39 ⟨v3, rfl, hn⟩
        obtain ⟨S3, H2, _⟩ := H.addM (.tail _ (.head _)) hn
        clear H
        have H := H2
        clear H2
        obtain ⟨A3, c3, hv3⟩ := (H.ro 0 rfl).form
        subst hv3
        refine ⟨.inl (H.front 0 rfl).only.forgetRO, ?_⟩
        refine quiet _ (fun w H => build226 ⟨rfl, rfl⟩) ?_
        refine Hp.buildNil H T32 ?_
        clear H
        intro g9 w41 H
        refine ⟨.inl (H.front 1 rfl).only.forgetRO, ?_⟩
        refine call_fn (c191 n E c _ S1 _ (by omega) hElr (H.ro 2 rfl) (H.rlt _ (.tail _ (.tail _ (.head _))))) ?_
        rintro _ w42 ⟨v8, rfl, hn⟩
        obtain ⟨S8, H2, _⟩ := H.addM (.tail _ (.tail _ (.head _))) hn
        clear H
        have H := H2
        clear H2
        obtain ⟨A8, c8, hv8⟩ := (H.ro 0 rfl).form
        subst hv8
        refine ⟨.inl (H.front 1 rfl).only.forgetRO.forgetRO, ?_⟩
        refine Hp.appendCopy H 0 T32 rfl (own_Sl (H.ro 2 rfl)) (intsI_one _) (by omega) (by omega) ?_
        clear H
        intro A11 d11 w43 H
        refine ⟨.inl (H.front 1 rfl).only.forgetRO.forgetRO, ?_⟩
        refine H.buildOne T32 rfl ?_
        clear H
        intro gc w44 H
        refine ⟨.inl (H.front 2 rfl).only.forgetRO.forgetRO, ?_⟩
        refine H.appendBlk 1 0 T32 rfl rfl rfl (fun u hu => by rw [List.mem_singleton.1 hu]; rfl) (by omega) (by omega) ?_
        clear H
        intro A14 d14 w45 H
        refine ⟨.inl (H.front 2 rfl).only.forgetRO.forgetRO, ?_⟩
        refine quiet _ (fun w H => build226 ⟨rfl, rfl⟩) ?_
        refine H.buildSl T227 (cs := encP n A3 (dropC E c).length c3 (.slice B15 (x.2 ++ TT).length d15) (.slice A8 (withoutM E c).length c8, .slice A14 ((x.2 ++ TT).length + 1) d14)) (by decide) (by decide) (by kernel_rfl) ?_
        clear H
        intro g16 w47 H
        refine ⟨.inl (H.front 3 rfl).only.forgetRO.forgetRO, ?_⟩
        refine H.appendBlk 4 0 T227 rfl rfl rfl (encP_one _ _ _ _ _ _ _ _ _) (by omega) (by omega) ?_
        clear H
        intro A17 d17 w48 H
        refine ⟨.inl (H.front 3 rfl).only.forgetRO.forgetRO, ?_⟩
        obtain ⟨S', Sb', H'⟩ := hstep _ _ _ _ _ _ _ _ _ ((((H.front 5 rfl).front 3 rfl).front 5 rfl).only3)
        exact ⟨(_, _, _, _, best, Bb, db, k + 1, S', Sb'), hheft, ⟨by simp; rfl, rfl, rfl, trivial⟩, ⟨hb40, hfew2⟩, H'⟩
      · refine quiet _ (fun w H => H.loadAll 0 rfl agg91 size91 ⟨rfl, rfl⟩) ?_
        refine quiet _ (fun w H => H.loadAll 0 rfl agg91 size91 ⟨rfl, rfl⟩) ?_
        refine call_fn (c194 n E c _ S1 _ (by omega) hElr (H.ro 1 rfl) (H.rlt _ (.tail _ (.head _)))) ?_
        rintro _ w39 ⟨v3, rfl, hn⟩
        obtain ⟨S3, H2, _⟩ := H.addM (.tail _ (.head _)) hn
        clear H
        have H := H2
        clear H2
        obtain ⟨A3, c3, hv3⟩ := (H.ro 0 rfl).form
        subst hv3
        refine ⟨.inl (H.front 0 rfl).only.forgetRO, ?_⟩
        refine quiet _ (fun w H => build226 ⟨rfl, rfl⟩) ?_
        refine Hp.buildNil H T32 ?_
        clear H
        intro g9 w41 H
        refine ⟨.inl (H.front 1 rfl).only.forgetRO, ?_⟩
        refine call_fn (c191 n E c _ S1 _ (by omega) hElr (H.ro 2 rfl) (H.rlt _ (.tail _ (.tail _ (.head _))))) ?_
        rintro _ w42 ⟨v8, rfl, hn⟩
        obtain ⟨S8, H2, _⟩ := H.addM (.tail _ (.tail _ (.head _))) hn
        clear H
        have H := H2
        clear H2
        obtain ⟨A8, c8, hv8⟩ := (H.ro 0 rfl).form
        subst hv8
        refine ⟨.inl (H.front 1 rfl).only.forgetRO.forgetRO, ?_⟩
        refine H.buildOne T32 rfl ?_
        clear H
        intro gc w43 H
        refine ⟨.inl (H.front 2 rfl).only.forgetRO.forgetRO, ?_⟩
        refine Hp.appendCopy H 1 T32 rfl (own_Sl (H.ro 2 rfl)) (intsI_one _) (by omega) (by omega) ?_
        clear H
        intro A11 d11 w44 H
        refine ⟨.inl (H.front 2 rfl).only.forgetRO.forgetRO, ?_⟩
        refine H.appendBlk 1 0 T32 rfl rfl rfl (fun u hu => by rw [List.mem_singleton.1 hu]; rfl) (by omega) (by omega) ?_
        clear H
        intro A14 d14 w45 H
        refine ⟨.inl (H.front 2 rfl).only.forgetRO.forgetRO, ?_⟩
        refine quiet _ (fun w H => build226 ⟨rfl, rfl⟩) ?_
        refine H.buildSl T227 (cs := encP n A3 (dropC E c).length c3 (.slice B15 (x.2 ++ TT).length d15) (.slice A8 (withoutM E c).length c8, .slice A14 ((x.2 ++ TT).length + 1) d14)) (by decide) (by decide) (by kernel_rfl) ?_
        clear H
        intro g16 w47 H
        refine ⟨.inl (H.front 3 rfl).only.forgetRO.forgetRO, ?_⟩
        refine H.appendBlk 4 0 T227 rfl rfl rfl (encP_one _ _ _ _ _ _ _ _ _) (by omega) (by omega) ?_
        clear H
        intro A17 d17 w48 H
        refine ⟨.inl (H.front 3 rfl).only.forgetRO.forgetRO, ?_⟩
        obtain ⟨S', Sb', H'⟩ := hstep _ _ _ _ _ _ _ _ _ ((((H.front 5 rfl).front 3 rfl).front 5 rfl).only3)
        exact ⟨(_, _, _, _, best, Bb, db, k + 1, S', Sb'), hheft, ⟨by simp; rfl, rfl, rfl, trivial⟩, ⟨hb40, hfew2⟩, H'⟩
      · refine quiet _ (fun w H => H.loadAll 0 rfl agg91 size91 ⟨rfl, rfl⟩) ?_
        refine quiet _ (fun w H => H.loadAll 0 rfl agg91 size91 ⟨rfl, rfl⟩) ?_
        refine call_fn (c194 n E c _ S1 _ (by omega) hElr (H.ro 1 rfl) (H.rlt _ (.tail _ (.head _)))) ?_
        rintro _ w39 ⟨v3, rfl, hn⟩
        obtain ⟨S3, H2, _⟩ := H.addM (.tail _ (.head _)) hn
        clear H
        have H := H2
        clear H2
        obtain ⟨A3, c3, hv3⟩ := (H.ro 0 rfl).form
        subst hv3
        refine ⟨.inl (H.front 0 rfl).only.forgetRO, ?_⟩
        refine quiet _ (fun w H => build226 ⟨rfl, rfl⟩) ?_
        refine Hp.buildNil H T32 ?_
        clear H
        intro g9 w41 H
        refine ⟨.inl (H.front 1 rfl).only.forgetRO, ?_⟩
        refine H.buildOne T32 rfl ?_
        clear H
        intro gc w42 H
        refine ⟨.inl (H.front 2 rfl).only.forgetRO, ?_⟩
        refine call_fn (c191 n E c _ S1 _ (by omega) hElr (H.ro 2 rfl) (H.rlt _ (.tail _ (.tail _ (.head _))))) ?_
        rintro _ w43 ⟨v8, rfl, hn⟩
        obtain ⟨S8, H2, _⟩ := H.addM (.tail _ (.tail _ (.head _))) hn
        clear H
        have H := H2
        clear H2
        obtain ⟨A8, c8, hv8⟩ := (H.ro 0 rfl).form
        subst hv8
        refine ⟨.inl (H.front 2 rfl).only.forgetRO.forgetRO, ?_⟩
        refine Hp.appendCopy H 1 T32 rfl (own_Sl (H.ro 2 rfl)) (intsI_one _) (by omega) (by omega) ?_
        clear H
        intro A11 d11 w44 H
        refine ⟨.inl (H.front 2 rfl).only.forgetRO.forgetRO, ?_⟩
        refine H.appendBlk 1 0 T32 rfl rfl rfl (fun u hu => by rw [List.mem_singleton.1 hu]; rfl) (by omega) (by omega) ?_
        clear H
        intro A14 d14 w45 H
        refine ⟨.inl (H.front 2 rfl).only.forgetRO.forgetRO, ?_⟩
        refine quiet _ (fun w H => build226 ⟨rfl, rfl⟩) ?_
        refine H.buildSl T227 (cs := encP n A3 (dropC E c).length c3 (.slice B15 (x.2 ++ TT).length d15) (.slice A8 (withoutM E c).length c8, .slice A14 ((x.2 ++ TT).length + 1) d14)) (by decide) (by decide) (by kernel_rfl) ?_
        clear H
        intro g16 w47 H
        refine ⟨.inl (H.front 3 rfl).only.forgetRO.forgetRO, ?_⟩
        refine H.appendBlk 4 0 T227 rfl rfl rfl (encP_one _ _ _ _ _ _ _ _ _) (by omega) (by omega) ?_
        clear H
        intro A17 d17 w48 H
        refine ⟨.inl (H.front 3 rfl).only.forgetRO.forgetRO, ?_⟩
        obtain ⟨S', Sb', H'⟩ := hstep _ _ _ _ _ _ _ _ _ ((((H.front 5 rfl).front 3 rfl).front 5 rfl).only3)
        exact ⟨(_, _, _, _, best, Bb, db, k + 1, S', Sb'), hheft, ⟨by simp; rfl, rfl, rfl, trivial⟩, ⟨hb40, hfew2⟩, H'⟩
      · refine quiet _ (fun w H => H.loadAll 0 rfl agg91 size91 ⟨rfl, rfl⟩) ?_
        refine quiet _ (fun w H => H.loadAll 0 rfl agg91 size91 ⟨rfl, rfl⟩) ?_
        refine call_fn (c194 n E c _ S1 _ (by omega) hElr (H.ro 1 rfl) (H.rlt _ (.tail _ (.head _)))) ?_
        rintro _ w39 ⟨v3, rfl, hn⟩
        obtain ⟨S3, H2, _⟩ := H.addM (.tail _ (.head _)) hn
        clear H
        have H := H2
        clear H2
        obtain ⟨A3, c3, hv3⟩ := (H.ro 0 rfl).form
        subst hv3
        refine ⟨.inl (H.front 0 rfl).only.forgetRO, ?_⟩
        refine quiet _ (fun w H => build226 ⟨rfl, rfl⟩) ?_
        refine H.buildOne T32 rfl ?_
        clear H
        intro gc w41 H
        refine ⟨.inl (H.front 1 rfl).only.forgetRO, ?_⟩
        refine call_fn (c191 n E c _ S1 _ (by omega) hElr (H.ro 2 rfl) (H.rlt _ (.tail _ (.tail _ (.head _))))) ?_
        rintro _ w42 ⟨v8, rfl, hn⟩
        obtain ⟨S8, H2, _⟩ := H.addM (.tail _ (.tail _ (.head _))) hn
        clear H
        have H := H2
        clear H2
        obtain ⟨A8, c8, hv8⟩ := (H.ro 0 rfl).form
        subst hv8
        refine ⟨.inl (H.front 1 rfl).only.forgetRO.forgetRO, ?_⟩
        refine Hp.buildNil H T32 ?_
        clear H
        intro g9 w43 H
        refine ⟨.inl (H.front 2 rfl).only.forgetRO.forgetRO, ?_⟩
        refine Hp.appendCopy H 0 T32 rfl (own_Sl (H.ro 2 rfl)) (intsI_one _) (by omega) (by omega) ?_
        clear H
        intro A11 d11 w44 H
        refine ⟨.inl (H.front 2 rfl).only.forgetRO.forgetRO, ?_⟩
        refine H.appendBlk 0 1 T32 rfl rfl rfl (fun u hu => by rw [List.mem_singleton.1 hu]; rfl) (by omega) (by omega) ?_
        clear H
        intro A14 d14 w45 H
        refine ⟨.inl (H.front 2 rfl).only.forgetRO.forgetRO, ?_⟩
        refine quiet _ (fun w H => build226 ⟨rfl, rfl⟩) ?_
        refine H.buildSl T227 (cs := encP n A3 (dropC E c).length c3 (.slice B15 (x.2 ++ TT).length d15) (.slice A8 (withoutM E c).length c8, .slice A14 ((x.2 ++ TT).length + 1) d14)) (by decide) (by decide) (by kernel_rfl) ?_
        clear H
        intro g16 w47 H
        refine ⟨.inl (H.front 3 rfl).only.forgetRO.forgetRO, ?_⟩
        refine H.appendBlk 4 0 T227 rfl rfl rfl (encP_one _ _ _ _ _ _ _ _ _) (by omega) (by omega) ?_
        clear H
        intro A17 d17 w48 H
        refine ⟨.inl (H.front 3 rfl).only.forgetRO.forgetRO, ?_⟩
        obtain ⟨S', Sb', H'⟩ := hstep _ _ _ _ _ _ _ _ _ ((((H.front 5 rfl).front 2 rfl).front 5 rfl).only3)
        exact ⟨(_, _, _, _, best, Bb, db, k + 1, S', Sb'), hheft, ⟨by simp; rfl, rfl, rfl, trivial⟩, ⟨hb40, hfew2⟩, H'⟩
      · refine quiet _ (fun w H => H.loadAll 0 rfl agg91 size91 ⟨rfl, rfl⟩) ?_
        refine quiet _ (fun w H => H.loadAll 0 rfl agg91 size91 ⟨rfl, rfl⟩) ?_
        refine call_fn (c194 n E c _ S1 _ (by omega) hElr (H.ro 1 rfl) (H.rlt _ (.tail _ (.head _)))) ?_
        rintro _ w39 ⟨v3, rfl, hn⟩
        obtain ⟨S3, H2, _⟩ := H.addM (.tail _ (.head _)) hn
        clear H
        have H := H2
        clear H2
        obtain ⟨A3, c3, hv3⟩ := (H.ro 0 rfl).form
        subst hv3
        refine ⟨.inl (H.front 0 rfl).only.forgetRO, ?_⟩
        refine quiet _ (fun w H => build226 ⟨rfl, rfl⟩) ?_
        refine H.buildOne T32 rfl ?_
        clear H
        intro gc w41 H
        refine ⟨.inl (H.front 1 rfl).only.forgetRO, ?_⟩
        refine Hp.buildNil H T32 ?_
        clear H
        intro g9 w42 H
        refine ⟨.inl (H.front 2 rfl).only.forgetRO, ?_⟩
        refine call_fn (c191 n E c _ S1 _ (by omega) hElr (H.ro 2 rfl) (H.rlt _ (.tail _ (.tail _ (.head _))))) ?_
        rintro _ w43 ⟨v8, rfl, hn⟩
        obtain ⟨S8, H2, _⟩ := H.addM (.tail _ (.tail _ (.head _))) hn
        clear H
        have H := H2
        clear H2
        obtain ⟨A8, c8, hv8⟩ := (H.ro 0 rfl).form
        subst hv8
        refine ⟨.inl (H.front 2 rfl).only.forgetRO.forgetRO, ?_⟩
        refine Hp.appendCopy H 0 T32 rfl (own_Sl (H.ro 2 rfl)) (intsI_one _) (by omega) (by omega) ?_
        clear H
        intro A11 d11 w44 H
        refine ⟨.inl (H.front 2 rfl).only.forgetRO.forgetRO, ?_⟩
        refine H.appendBlk 0 1 T32 rfl rfl rfl (fun u hu => by rw [List.mem_singleton.1 hu]; rfl) (by omega) (by omega) ?_
        clear H
        intro A14 d14 w45 H
        refine ⟨.inl (H.front 2 rfl).only.forgetRO.forgetRO, ?_⟩
        refine quiet _ (fun w H => build226 ⟨rfl, rfl⟩) ?_
        refine H.buildSl T227 (cs := encP n A3 (dropC E c).length c3 (.slice B15 (x.2 ++ TT).length d15) (.slice A8 (withoutM E c).length c8, .slice A14 ((x.2 ++ TT).length + 1) d14)) (by decide) (by decide) (by kernel_rfl) ?_
        clear H
        intro g16 w47 H
        refine ⟨.inl (H.front 3 rfl).only.forgetRO.forgetRO, ?_⟩
        refine H.appendBlk 4 0 T227 rfl rfl rfl (encP_one _ _ _ _ _ _ _ _ _) (by omega) (by omega) ?_
        clear H
        intro A17 d17 w48 H
        refine ⟨.inl (H.front 3 rfl).only.forgetRO.forgetRO, ?_⟩
        obtain ⟨S', Sb', H'⟩ := hstep _ _ _ _ _ _ _ _ _ ((((H.front 5 rfl).front 2 rfl).front 5 rfl).only3)
        exact ⟨(_, _, _, _, best, Bb, db, k + 1, S', Sb'), hheft, ⟨by simp; rfl, rfl, rfl, trivial⟩, ⟨hb40, hfew2⟩, H'⟩
      · refine quiet _ (fun w H => H.loadAll 0 rfl agg91 size91 ⟨rfl, rfl⟩) ?_
        refine quiet _ (fun w H => H.loadAll 0 rfl agg91 size91 ⟨rfl, rfl⟩) ?_
        refine Hp.buildNil H T32 ?_
        clear H
        intro g9 w39 H
        refine ⟨.inl (H.front 1 rfl).only, ?_⟩
        refine call_fn (c194 n E c _ S1 _ (by omega) hElr (H.ro 1 rfl) (H.rlt _ (.tail _ (.head _)))) ?_
        rintro _ w40 ⟨v3, rfl, hn⟩
        obtain ⟨S3, H2, _⟩ := H.addM (.tail _ (.head _)) hn
        clear H
        have H := H2
        clear H2
        obtain ⟨A3, c3, hv3⟩ := (H.ro 0 rfl).form
        subst hv3
        refine ⟨.inl (H.front 1 rfl).only.forgetRO, ?_⟩
        refine quiet _ (fun w H => build226 ⟨rfl, rfl⟩) ?_
        refine call_fn (c191 n E c _ S1 _ (by omega) hElr (H.ro 2 rfl) (H.rlt _ (.tail _ (.tail _ (.head _))))) ?_
        rintro _ w42 ⟨v8, rfl, hn⟩
        obtain ⟨S8, H2, _⟩ := H.addM (.tail _ (.tail _ (.head _))) hn
        clear H
        have H := H2
        clear H2
        obtain ⟨A8, c8, hv8⟩ := (H.ro 0 rfl).form
        subst hv8
        refine ⟨.inl (H.front 1 rfl).only.forgetRO.forgetRO, ?_⟩
        refine Hp.appendCopy H 0 T32 rfl (own_Sl (H.ro 2 rfl)) (intsI_one _) (by omega) (by omega) ?_
        clear H
        intro A11 d11 w43 H
        refine ⟨.inl (H.front 1 rfl).only.forgetRO.forgetRO, ?_⟩
        refine H.buildOne T32 rfl ?_
        clear H
        intro gc w44 H
        refine ⟨.inl (H.front 2 rfl).only.forgetRO.forgetRO, ?_⟩
        refine H.appendBlk 1 0 T32 rfl rfl rfl (fun u hu => by rw [List.mem_singleton.1 hu]; rfl) (by omega) (by omega) ?_
        clear H
        intro A14 d14 w45 H
        refine ⟨.inl (H.front 2 rfl).only.forgetRO.forgetRO, ?_⟩
        refine quiet _ (fun w H => build226 ⟨rfl, rfl⟩) ?_
        refine H.buildSl T227 (cs := encP n A3 (dropC E c).length c3 (.slice B15 (x.2 ++ TT).length d15) (.slice A8 (withoutM E c).length c8, .slice A14 ((x.2 ++ TT).length + 1) d14)) (by decide) (by decide) (by kernel_rfl) ?_
        clear H
        intro g16 w47 H
        refine ⟨.inl (H.front 3 rfl).only.forgetRO.forgetRO, ?_⟩
        refine H.appendBlk 4 0 T227 rfl rfl rfl (encP_one _ _ _ _ _ _ _ _ _) (by omega) (by omega) ?_
        clear H
        intro A17 d17 w48 H
        refine ⟨.inl (H.front 3 rfl).only.forgetRO.forgetRO, ?_⟩
        obtain ⟨S', Sb', H'⟩ := hstep _ _ _ _ _ _ _ _ _ ((((H.front 5 rfl).front 3 rfl).front 5 rfl).only3)
        exact ⟨(_, _, _, _, best, Bb, db, k + 1, S', Sb'), hheft, ⟨by simp; rfl, rfl, rfl, trivial⟩, ⟨hb40, hfew2⟩, H'⟩
      · refine quiet _ (fun w H => H.loadAll 0 rfl agg91 size91 ⟨rfl, rfl⟩) ?_
        refine quiet _ (fun w H => H.loadAll 0 rfl agg91 size91 ⟨rfl, rfl⟩) ?_
        refine Hp.buildNil H T32 ?_
        clear H
        intro g9 w39 H
        refine ⟨.inl (H.front 1 rfl).only, ?_⟩
        refine call_fn (c194 n E c _ S1 _ (by omega) hElr (H.ro 1 rfl) (H.rlt _ (.tail _ (.head _)))) ?_
        rintro _ w40 ⟨v3, rfl, hn⟩
        obtain ⟨S3, H2, _⟩ := H.addM (.tail _ (.head _)) hn
        clear H
        have H := H2
        clear H2
        obtain ⟨A3, c3, hv3⟩ := (H.ro 0 rfl).form
        subst hv3
        refine ⟨.inl (H.front 1 rfl).only.forgetRO, ?_⟩
        refine quiet _ (fun w H => build226 ⟨rfl, rfl⟩) ?_
        refine call_fn (c191 n E c _ S1 _ (by omega) hElr (H.ro 2 rfl) (H.rlt _ (.tail _ (.tail _ (.head _))))) ?_
        rintro _ w42 ⟨v8, rfl, hn⟩
        obtain ⟨S8, H2, _⟩ := H.addM (.tail _ (.tail _ (.head _))) hn
        clear H
        have H := H2
        clear H2
        obtain ⟨A8, c8, hv8⟩ := (H.ro 0 rfl).form
        subst hv8
        refine ⟨.inl (H.front 1 rfl).only.forgetRO.forgetRO, ?_⟩
        refine H.buildOne T32 rfl ?_
        clear H
        intro gc w43 H
        refine ⟨.inl (H.front 2 rfl).only.forgetRO.forgetRO, ?_⟩
        refine Hp.appendCopy H 1 T32 rfl (own_Sl (H.ro 2 rfl)) (intsI_one _) (by omega) (by omega) ?_
        clear H
        intro A11 d11 w44 H
        refine ⟨.inl (H.front 2 rfl).only.forgetRO.forgetRO, ?_⟩
        refine H.appendBlk 1 0 T32 rfl rfl rfl (fun u hu => by rw [List.mem_singleton.1 hu]; rfl) (by omega) (by omega) ?_
        clear H
        intro A14 d14 w45 H
        refine ⟨.inl (H.front 2 rfl).only.forgetRO.forgetRO, ?_⟩
        refine quiet _ (fun w H => build226 ⟨rfl, rfl⟩) ?_
        refine H.buildSl T227 (cs := encP n A3 (dropC E c).length c3 (.slice B15 (x.2 ++ TT).length d15) (.slice A8 (withoutM E c).length c8, .slice A14 ((x.2 ++ TT).length + 1) d14)) (by decide) (by decide) (by kernel_rfl) ?_
        clear H
        intro g16 w47 H
        refine ⟨.inl (H.front 3 rfl).only.forgetRO.forgetRO, ?_⟩
        refine H.appendBlk 4 0 T227 rfl rfl rfl (encP_one _ _ _ _ _ _ _ _ _) (by omega) (by omega) ?_
        clear H
        intro A17 d17 w48 H
        refine ⟨.inl (H.front 3 rfl).only.forgetRO.forgetRO, ?_⟩
        obtain ⟨S', Sb', H'⟩ := hstep _ _ _ _ _ _ _ _ _ ((((H.front 5 rfl).front 3 rfl).front 5 rfl).only3)
        exact ⟨(_, _, _, _, best, Bb, db, k + 1, S', Sb'), hheft, ⟨by simp; rfl, rfl, rfl, trivial⟩, ⟨hb40, hfew2⟩, H'⟩
      · refine quiet _ (fun w H => H.loadAll 0 rfl agg91 size91 ⟨rfl, rfl⟩) ?_
        refine quiet _ (fun w H => H.loadAll 0 rfl agg91 size91 ⟨rfl, rfl⟩) ?_
        refine Hp.buildNil H T32 ?_
        clear H
        intro g9 w39 H
        refine ⟨.inl (H.front 1 rfl).only, ?_⟩
        refine call_fn (c194 n E c _ S1 _ (by omega) hElr (H.ro 1 rfl) (H.rlt _ (.tail _ (.head _)))) ?_
        rintro _ w40 ⟨v3, rfl, hn⟩
        obtain ⟨S3, H2, _⟩ := H.addM (.tail _ (.head _)) hn
        clear H
        have H := H2
        clear H2
        obtain ⟨A3, c3, hv3⟩ := (H.ro 0 rfl).form
        subst hv3
        refine ⟨.inl (H.front 1 rfl).only.forgetRO, ?_⟩
        refine quiet _ (fun w H => build226 ⟨rfl, rfl⟩) ?_
        refine H.buildOne T32 rfl ?_
        clear H
        intro gc w42 H
        refine ⟨.inl (H.front 2 rfl).only.forgetRO, ?_⟩
        refine call_fn (c191 n E c _ S1 _ (by omega) hElr (H.ro 2 rfl) (H.rlt _ (.tail _ (.tail _ (.head _))))) ?_
        rintro _ w43 ⟨v8, rfl, hn⟩
        obtain ⟨S8, H2, _⟩ := H.addM (.tail _ (.tail _ (.head _))) hn
        clear H
        have H := H2
        clear H2
        obtain ⟨A8, c8, hv8⟩ := (H.ro 0 rfl).form
        subst hv8
        refine ⟨.inl (H.front 2 rfl).only.forgetRO.forgetRO, ?_⟩
        refine Hp.appendCopy H 1 T32 rfl (own_Sl (H.ro 2 rfl)) (intsI_one _) (by omega) (by omega) ?_
        clear H
        intro A11 d11 w44 H
        refine ⟨.inl (H.front 2 rfl).only.forgetRO.forgetRO, ?_⟩
        refine H.appendBlk 1 0 T32 rfl rfl rfl (fun u hu => by rw [List.mem_singleton.1 hu]; rfl) (by omega) (by omega) ?_
        clear H
        intro A14 d14 w45 H
        refine ⟨.inl (H.front 2 rfl).only.forgetRO.forgetRO, ?_⟩
        refine quiet _ (fun w H => build226 ⟨rfl, rfl⟩) ?_
        refine H.buildSl T227 (cs := encP n A3 (dropC E c).length c3 (.slice B15 (x.2 ++ TT).length d15) (.slice A8 (withoutM E c).length c8, .slice A14 ((x.2 ++ TT).length + 1) d14)) (by decide) (by decide) (by kernel_rfl) ?_
        clear H
        intro g16 w47 H
        refine ⟨.inl (H.front 3 rfl).only.forgetRO.forgetRO, ?_⟩
        refine H.appendBlk 4 0 T227 rfl rfl rfl (encP_one _ _ _ _ _ _ _ _ _) (by omega) (by omega) ?_
        clear H
        intro A17 d17 w48 H
        refine ⟨.inl (H.front 3 rfl).only.forgetRO.forgetRO, ?_⟩
        obtain ⟨S', Sb', H'⟩ := hstep _ _ _ _ _ _ _ _ _ ((((H.front 5 rfl).front 3 rfl).front 5 rfl).only3)
        exact ⟨(_, _, _, _, best, Bb, db, k + 1, S', Sb'), hheft, ⟨by simp; rfl, rfl, rfl, trivial⟩, ⟨hb40, hfew2⟩, H'⟩
      · refine quiet _ (fun w H => H.loadAll 0 rfl agg91 size91 ⟨rfl, rfl⟩) ?_
        refine quiet _ (fun w H => H.loadAll 0 rfl agg91 size91 ⟨rfl, rfl⟩) ?_
        refine Hp.buildNil H T32 ?_
        clear H
        intro g9 w39 H
        refine ⟨.inl (H.front 1 rfl).only, ?_⟩
        refine H.buildOne T32 rfl ?_
        clear H
        intro gc w40 H
        refine ⟨.inl (H.front 2 rfl).only, ?_⟩
        refine call_fn (c194 n E c _ S1 _ (by omega) hElr (H.ro 1 rfl) (H.rlt _ (.tail _ (.head _)))) ?_
        rintro _ w41 ⟨v3, rfl, hn⟩
        obtain ⟨S3, H2, _⟩ := H.addM (.tail _ (.head _)) hn
        clear H
        have H := H2
        clear H2
        obtain ⟨A3, c3, hv3⟩ := (H.ro 0 rfl).form
        subst hv3
        refine ⟨.inl (H.front 2 rfl).only.forgetRO, ?_⟩
        refine quiet _ (fun w H => build226 ⟨rfl, rfl⟩) ?_
        refine call_fn (c191 n E c _ S1 _ (by omega) hElr (H.ro 2 rfl) (H.rlt _ (.tail _ (.tail _ (.head _))))) ?_
        rintro _ w43 ⟨v8, rfl, hn⟩
        obtain ⟨S8, H2, _⟩ := H.addM (.tail _ (.tail _ (.head _))) hn
        clear H
        have H := H2
        clear H2
        obtain ⟨A8, c8, hv8⟩ := (H.ro 0 rfl).form
        subst hv8
        refine ⟨.inl (H.front 2 rfl).only.forgetRO.forgetRO, ?_⟩
        refine Hp.appendCopy H 1 T32 rfl (own_Sl (H.ro 2 rfl)) (intsI_one _) (by omega) (by omega) ?_
        clear H
        intro A11 d11 w44 H
        refine ⟨.inl (H.front 2 rfl).only.forgetRO.forgetRO, ?_⟩
        refine H.appendBlk 1 0 T32 rfl rfl rfl (fun u hu => by rw [List.mem_singleton.1 hu]; rfl) (by omega) (by omega) ?_
        clear H
        intro A14 d14 w45 H
        refine ⟨.inl (H.front 2 rfl).only.forgetRO.forgetRO, ?_⟩
        refine quiet _ (fun w H => build226 ⟨rfl, rfl⟩) ?_
        refine H.buildSl T227 (cs := encP n A3 (dropC E c).length c3 (.slice B15 (x.2 ++ TT).length d15) (.slice A8 (withoutM E c).length c8, .slice A14 ((x.2 ++ TT).length + 1) d14)) (by decide) (by decide) (by kernel_rfl) ?_
        clear H
        intro g16 w47 H
        refine ⟨.inl (H.front 3 rfl).only.forgetRO.forgetRO, ?_⟩
        refine H.appendBlk 4 0 T227 rfl rfl rfl (encP_one _ _ _ _ _ _ _ _ _) (by omega) (by omega) ?_
        clear H
        intro A17 d17 w48 H
        refine ⟨.inl (H.front 3 rfl).only.forgetRO.forgetRO, ?_⟩
        obtain ⟨S', Sb', H'⟩ := hstep _ _ _ _ _ _ _ _ _ ((((H.front 5 rfl).front 3 rfl).front 5 rfl).only3)
        exact ⟨(_, _, _, _, best, Bb, db, k + 1, S', Sb'), hheft, ⟨by simp; rfl, rfl, rfl, trivial⟩, ⟨hb40, hfew2⟩, H'⟩
      · refine quiet _ (fun w H => H.loadAll 0 rfl agg91 size91 ⟨rfl, rfl⟩) ?_
        refine quiet _ (fun w H => H.loadAll 0 rfl agg91 size91 ⟨rfl, rfl⟩) ?_
        refine H.buildOne T32 rfl ?_
        clear H
        intro gc w39 H
        refine ⟨.inl (H.front 1 rfl).only, ?_⟩
        refine call_fn (c194 n E c _ S1 _ (by omega) hElr (H.ro 1 rfl) (H.rlt _ (.tail _ (.head _)))) ?_
        rintro _ w40 ⟨v3, rfl, hn⟩
        obtain ⟨S3, H2, _⟩ := H.addM (.tail _ (.head _)) hn
        clear H
        have H := H2
        clear H2
        obtain ⟨A3, c3, hv3⟩ := (H.ro 0 rfl).form
        subst hv3
        refine ⟨.inl (H.front 1 rfl).only.forgetRO, ?_⟩
        refine quiet _ (fun w H => build226 ⟨rfl, rfl⟩) ?_
        refine call_fn (c191 n E c _ S1 _ (by omega) hElr (H.ro 2 rfl) (H.rlt _ (.tail _ (.tail _ (.head _))))) ?_
        rintro _ w42 ⟨v8, rfl, hn⟩
        obtain ⟨S8, H2, _⟩ := H.addM (.tail _ (.tail _ (.head _))) hn
        clear H
        have H := H2
        clear H2
        obtain ⟨A8, c8, hv8⟩ := (H.ro 0 rfl).form
        subst hv8
        refine ⟨.inl (H.front 1 rfl).only.forgetRO.forgetRO, ?_⟩
        refine Hp.buildNil H T32 ?_
        clear H
        intro g9 w43 H
        refine ⟨.inl (H.front 2 rfl).only.forgetRO.forgetRO, ?_⟩
        refine Hp.appendCopy H 0 T32 rfl (own_Sl (H.ro 2 rfl)) (intsI_one _) (by omega) (by omega) ?_
        clear H
        intro A11 d11 w44 H
        refine ⟨.inl (H.front 2 rfl).only.forgetRO.forgetRO, ?_⟩
        refine H.appendBlk 0 1 T32 rfl rfl rfl (fun u hu => by rw [List.mem_singleton.1 hu]; rfl) (by omega) (by omega) ?_
        clear H
        intro A14 d14 w45 H
        refine ⟨.inl (H.front 2 rfl).only.forgetRO.forgetRO, ?_⟩
        refine quiet _ (fun w H => build226 ⟨rfl, rfl⟩) ?_
        refine H.buildSl T227 (cs := encP n A3 (dropC E c).length c3 (.slice B15 (x.2 ++ TT).length d15) (.slice A8 (withoutM E c).length c8, .slice A14 ((x.2 ++ TT).length + 1) d14)) (by decide) (by decide) (by kernel_rfl) ?_
        clear H
        intro g16 w47 H
        refine ⟨.inl (H.front 3 rfl).only.forgetRO.forgetRO, ?_⟩
        refine H.appendBlk 4 0 T227 rfl rfl rfl (encP_one _ _ _ _ _ _ _ _ _) (by omega) (by omega) ?_
        clear H
        intro A17 d17 w48 H
        refine ⟨.inl (H.front 3 rfl).only.forgetRO.forgetRO, ?_⟩
        obtain ⟨S', Sb', H'⟩ := hstep _ _ _ _ _ _ _ _ _ ((((H.front 5 rfl).front 2 rfl).front 5 rfl).only3)
        exact ⟨(_, _, _, _, best, Bb, db, k + 1, S', Sb'), hheft, ⟨by simp; rfl, rfl, rfl, trivial⟩, ⟨hb40, hfew2⟩, H'⟩
      · refine quiet _ (fun w H => H.loadAll 0 rfl agg91 size91 ⟨rfl, rfl⟩) ?_
        refine quiet _ (fun w H => H.loadAll 0 rfl agg91 size91 ⟨rfl, rfl⟩) ?_
        refine H.buildOne T32 rfl ?_
        clear H
        intro gc w39 H
        refine ⟨.inl (H.front 1 rfl).only, ?_⟩
        refine call_fn (c194 n E c _ S1 _ (by omega) hElr (H.ro 1 rfl) (H.rlt _ (.tail _ (.head _)))) ?_
        rintro _ w40 ⟨v3, rfl, hn⟩
        obtain ⟨S3, H2, _⟩ := H.addM (.tail _ (.head _)) hn
        clear H
        have H := H2
        clear H2
        obtain ⟨A3, c3, hv3⟩ := (H.ro 0 rfl).form
        subst hv3
        refine ⟨.inl (H.front 1 rfl).only.forgetRO, ?_⟩
        refine quiet _ (fun w H => build226 ⟨rfl, rfl⟩) ?_
        refine Hp.buildNil H T32 ?_
        clear H
        intro g9 w42 H
        refine ⟨.inl (H.front 2 rfl).only.forgetRO, ?_⟩
        refine call_fn (c191 n E c _ S1 _ (by omega) hElr (H.ro 2 rfl) (H.rlt _ (.tail _ (.tail _ (.head _))))) ?_
        rintro _ w43 ⟨v8, rfl, hn⟩
        obtain ⟨S8, H2, _⟩ := H.addM (.tail _ (.tail _ (.head _))) hn
        clear H
        have H := H2
        clear H2
        obtain ⟨A8, c8, hv8⟩ := (H.ro 0 rfl).form
        subst hv8
        refine ⟨.inl (H.front 2 rfl).only.forgetRO.forgetRO, ?_⟩
        refine Hp.appendCopy H 0 T32 rfl (own_Sl (H.ro 2 rfl)) (intsI_one _) (by omega) (by omega) ?_
        clear H
        intro A11 d11 w44 H
        refine ⟨.inl (H.front 2 rfl).only.forgetRO.forgetRO, ?_⟩
        refine H.appendBlk 0 1 T32 rfl rfl rfl (fun u hu => by rw [List.mem_singleton.1 hu]; rfl) (by omega) (by omega) ?_
        clear H
        intro A14 d14 w45 H
        refine ⟨.inl (H.front 2 rfl).only.forgetRO.forgetRO, ?_⟩
        refine quiet _ (fun w H => build226 ⟨rfl, rfl⟩) ?_
        refine H.buildSl T227 (cs := encP n A3 (dropC E c).length c3 (.slice B15 (x.2 ++ TT).length d15) (.slice A8 (withoutM E c).length c8, .slice A14 ((x.2 ++ TT).length + 1) d14)) (by decide) (by decide) (by kernel_rfl) ?_
        clear H
        intro g16 w47 H
        refine ⟨.inl (H.front 3 rfl).only.forgetRO.forgetRO, ?_⟩
        refine H.appendBlk 4 0 T227 rfl rfl rfl (encP_one _ _ _ _ _ _ _ _ _) (by omega) (by omega) ?_
        clear H
        intro A17 d17 w48 H
        refine ⟨.inl (H.front 3 rfl).only.forgetRO.forgetRO, ?_⟩
        obtain ⟨S', Sb', H'⟩ := hstep _ _ _ _ _ _ _ _ _ ((((H.front 5 rfl).front 2 rfl).front 5 rfl).only3)
        exact ⟨(_, _, _, _, best, Bb, db, k + 1, S', Sb'), hheft, ⟨by simp; rfl, rfl, rfl, trivial⟩, ⟨hb40, hfew2⟩, H'⟩
      · refine quiet _ (fun w H => H.loadAll 0 rfl agg91 size91 ⟨rfl, rfl⟩) ?_
        refine quiet _ (fun w H => H.loadAll 0 rfl agg91 size91 ⟨rfl, rfl⟩) ?_
        refine H.buildOne T32 rfl ?_
        clear H
        intro gc w39 H
        refine ⟨.inl (H.front 1 rfl).only, ?_⟩
        refine Hp.buildNil H T32 ?_
        clear H
        intro g9 w40 H
        refine ⟨.inl (H.front 2 rfl).only, ?_⟩
        refine call_fn (c194 n E c _ S1 _ (by omega) hElr (H.ro 1 rfl) (H.rlt _ (.tail _ (.head _)))) ?_
        rintro _ w41 ⟨v3, rfl, hn⟩
        obtain ⟨S3, H2, _⟩ := H.addM (.tail _ (.head _)) hn
        clear H
        have H := H2
        clear H2
        obtain ⟨A3, c3, hv3⟩ := (H.ro 0 rfl).form
        subst hv3
        refine ⟨.inl (H.front 2 rfl).only.forgetRO, ?_⟩
        refine quiet _ (fun w H => build226 ⟨rfl, rfl⟩) ?_
        refine call_fn (c191 n E c _ S1 _ (by omega) hElr (H.ro 2 rfl) (H.rlt _ (.tail _ (.tail _ (.head _))))) ?_
        rintro _ w43 ⟨v8, rfl, hn⟩
        obtain ⟨S8, H2, _⟩ := H.addM (.tail _ (.tail _ (.head _))) hn
        clear H
        have H := H2
        clear H2
        obtain ⟨A8, c8, hv8⟩ := (H.ro 0 rfl).form
        subst hv8
        refine ⟨.inl (H.front 2 rfl).only.forgetRO.forgetRO, ?_⟩
        refine Hp.appendCopy H 0 T32 rfl (own_Sl (H.ro 2 rfl)) (intsI_one _) (by omega) (by omega) ?_
        clear H
        intro A11 d11 w44 H
        refine ⟨.inl (H.front 2 rfl).only.forgetRO.forgetRO, ?_⟩
        refine H.appendBlk 0 1 T32 rfl rfl rfl (fun u hu => by rw [List.mem_singleton.1 hu]; rfl) (by omega) (by omega) ?_
        clear H
        intro A14 d14 w45 H
        refine ⟨.inl (H.front 2 rfl).only.forgetRO.forgetRO, ?_⟩
        refine quiet _ (fun w H => build226 ⟨rfl, rfl⟩) ?_
        refine H.buildSl T227 (cs := encP n A3 (dropC E c).length c3 (.slice B15 (x.2 ++ TT).length d15) (.slice A8 (withoutM E c).length c8, .slice A14 ((x.2 ++ TT).length + 1) d14)) (by decide) (by decide) (by kernel_rfl) ?_
        clear H
        intro g16 w47 H
        refine ⟨.inl (H.front 3 rfl).only.forgetRO.forgetRO, ?_⟩
        refine H.appendBlk 4 0 T227 rfl rfl rfl (encP_one _ _ _ _ _ _ _ _ _) (by omega) (by omega) ?_
        clear H
        intro A17 d17 w48 H
        refine ⟨.inl (H.front 3 rfl).only.forgetRO.forgetRO, ?_⟩
        obtain ⟨S', Sb', H'⟩ := hstep _ _ _ _ _ _ _ _ _ ((((H.front 5 rfl).front 2 rfl).front 5 rfl).only3)
        exact ⟨(_, _, _, _, best, Bb, db, k + 1, S', Sb'), hheft, ⟨by simp; rfl, rfl, rfl, trivial⟩, ⟨hb40, hfew2⟩, H'⟩
    · obtain rfl : ts = [] := List.length_eq_zero_iff.1 (by omega)
      obtain rfl : st = [] := List.length_eq_zero_iff.1 (by simpa using hlen.symm)
      exact ⟨(Bb, db, best, k), ⟨rfl, rfl, trivial⟩, ⟨by omega, hb40, hfew⟩, Sb, ((H.front 1 rfl).only).forgetRO⟩
  · clear H
    rintro ⟨B, d, best, k⟩ u w6 ⟨⟨hk, hb40, hfew⟩, Sb, H⟩
    replace H : Hp _ _ _ _ _ := H
    have hsl := H.ro 0 rfl
    have hend := few_end hright hfew
    refine fieldAddr_by (fa91_0 _) ?_
    refine H.load 0 rfl agg3 rfl ?_
    refine call_fn (c192 n best B d _ (by omega) (by omega) (sl.mono hsl (H.rlt _ (.head _)))) ?_
    rintro _ w7 ⟨B2, d2, rfl, hn⟩
    replace H := H.addNew hn
    exact ⟨B2, d2, risen n best, k, 0, rfl, .inr (.inr ⟨hr', hb', rfl, ⟨by omega, by omega⟩, ⟨best, by rw [Int.toNat_natCast]⟩, by rw [Int.toNat_natCast]; exact hend.1, hend.2⟩), (H.only).out⟩
end Go.Proofs.Ytjebpngdinbckaa
end

section
/- The search: great, knows. -/
namespace Go.Proofs.Ytjebpngdinbckaa
open Go.Dk
attribute [local irreducible] IntKind.wrap

theorem ent118 : enters Try.prog 118 = true := by kernel_rfl
theorem c118 (cols : Int) (R : Mat) (v1 : Value) (w : World) (hl : R.length ≤ 9223372036854775807) (h1 : MatAt w v1 R) :
    Fun Try.prog 118 [mv cols v1] w fun v w' => v = .bool (greatB cols R) ∧ Same w w' := by
  refine fun_of_W (N := 21) Try.func118 ent118 rfl rfl rfl (by simp) ?_
  have H := Hp.start0 w
  obtain ⟨A, ca, va, rfl, ha, hra⟩ := h1.openM
  refine H.box 91 (mv _ _) (cs := mc _ _) rfl ?_
  clear H
  intro g1 w1 H
  refine H.loadAll 0 rfl agg91 size91 ?_
  refine call_fn (c170 cols R _ _ hl (h1.same H.keeps)) ?_ 
  rintro _ w3 ⟨rfl, hk⟩ 
  replace H := H.same hk 
  clear hk
  refine cond_split (fun h4 => ?_) (fun h4 => ?_)
  · refine cond_yes (by assumption) ?_
    iterate 3 refine cond_yes (by assumption) ?_
    iterate 6 refine cond_yes rfl ?_
    refine ⟨congrArg Value.bool ?_, H.keeps⟩
    unfold greatB; rw [h4]; rfl
  · refine fieldAddr_by (fa91_1 _) ?_
    refine cond_no (by assumption) ?_
    refine H.load 0 rfl agg89 rfl ?_
    refine cond_no (by assumption) ?_
    refine len_sl Try.underlying89 ?_
    iterate 2 refine cond_no (by assumption) ?_
    refine cond_dec (fun h24 => ?_) (fun h24 => ?_)
    · refine cond_yes (decide_eq_true (by assumption)) ?_
      iterate 4 refine cond_yes (decide_eq_true (by assumption)) ?_
      refine ⟨congrArg Value.bool ?_, H.keeps⟩
      unfold greatB; rw [decide_eq_true (show 30 < R.length by omega), Bool.or_true, Bool.true_or]
    · refine fieldAddr_by (fa91_0 _) ?_
      refine cond_no (decide_eq_false (by assumption)) ?_
      refine H.load 0 rfl agg3 rfl ?_
      iterate 2 refine cond_no (decide_eq_false (by assumption)) ?_
      refine cond_dec (fun h37 => ?_) (fun h37 => ?_)
      · refine fieldAddr_by (fa91_0 _) ?_
        refine cond_yes (decide_eq_true (by assumption)) ?_
        refine H.load 0 rfl agg3 rfl ?_
        refine cond_yes (decide_eq_true (by assumption)) ?_
        refine cond_no (decide_eq_false (by assumption)) ?_
        refine cond_yes (decide_eq_true (by assumption)) ?_
        refine cond_no (decide_eq_false (by assumption)) ?_
        refine ⟨congrArg Value.bool ?_, H.keeps⟩
        unfold greatB; rw [h4, decide_eq_false (show ¬ 30 < R.length by omega), decide_eq_true (show 30 < cols by omega), Bool.true_and]; rfl
      · refine cond_no (decide_eq_false (by assumption)) ?_
        iterate 4 refine cond_no (decide_eq_false (by assumption)) ?_
        refine ⟨congrArg Value.bool ?_, H.keeps⟩
        unfold greatB; rw [h4, decide_eq_false (show ¬ 30 < R.length by omega), decide_eq_false (show ¬ 30 < cols by omega)]; rfl
def exS : Mat := [[0, 1], [1, 2], [0, 2]]
theorem exS_right : rightB 3 exS = true := by decide
theorem exS_bare : bareB exS = false := by decide
theorem exS_bound : boundS exS [] = 1 := by decide
theorem exS_busy : IsBusy exS 0 := by
  have hr : RightM 3 exS := rightB_iff.1 exS_right
  refine ⟨by decide, fun d => ?_⟩
  by_cases h : d < 0 ∨ 3 ≤ d
  · left; rw [cnt_out hr h]; decide
  · have : d = 0 ∨ d = 1 ∨ d = 2 := by omega
    rcases this with rfl | rfl | rfl <;> decide
theorem exS_busy2 : IsBusy (withoutM exS 0) 1 := by
  have hr : RightM 3 (withoutM exS 0) := without_right (rightB_iff.1 exS_right) 0
  refine ⟨by decide, fun d => ?_⟩
  by_cases h : d < 0 ∨ 3 ≤ d
  · left; rw [cnt_out hr h]; decide
  · have : d = 0 ∨ d = 1 ∨ d = 2 := by omega
    rcases this with rfl | rfl | rfl <;> decide
theorem exS_greedy {G : List Int} {e : Int} (h : GreedyR 3 exS G e) : G = [0, 1] ∧ e = 0 := by
  have h0 : withoutM (withoutM exS 0) 1 = [] := by decide
  have hg : Greedy exS [0, 1] := .cons exS_busy (.cons exS_busy2 (by rw [h0]; exact .nil))
  rcases h with ⟨h1, _⟩ | ⟨_, h1, _⟩ | ⟨_, _, h1, l, hl, rfl⟩
  · rw [exS_right] at h1; cases h1
  · rw [exS_bare] at h1; cases h1
  · obtain rfl := greedy_unique hl hg
    exact ⟨by decide, h1⟩
theorem exS_few {m : Nat} {G : List Int} {s e : Int} (h : FewR 3 exS m G s e) : G.length = 2 ∧ e = 0 ∧ SolvesM exS G := by
  rcases h with ⟨h1, _⟩ | ⟨_, h1, _⟩ | ⟨_, _, h1, _, _, hb, hs⟩
  · rw [exS_right] at h1; cases h1
  · rw [exS_bare] at h1; cases h1
  · refine ⟨?_, h1, hs⟩
    have hle : G.length ≤ 2 := by
      have h2 : SolvesM exS [0, 1] := solvesB_iff.1 (by decide)
      have hc : ColSet 3 [0, 1] := ⟨by decide, by decide⟩
      rcases hb with ⟨h3, _⟩ | ⟨S, _, _, h3, h4⟩
      · omega
      · have := h4 _ hc h2
        simp at this
        omega
    match G, hs, hle with
    | [], hs, _ => obtain ⟨k, _, hk⟩ := hs [0, 1] (by decide); cases hk
    | [a], hs, _ =>
      obtain ⟨k, h1, hk⟩ := hs [0, 1] (by decide)
      obtain ⟨k2, h2, hk2⟩ := hs [1, 2] (by decide)
      obtain ⟨k3, h3, hk3⟩ := hs [0, 2] (by decide)
      simp at h1 h2 h3 hk hk2 hk3
      omega
    | [a, b], _, _ => rfl
    | a :: b :: c :: l, _, hle => simp at hle
theorem ent119 : enters Try.prog 119 = true := by kernel_rfl
theorem c119 (w : World) : Fun Try.prog 119 [] w fun v w' => v = .bool true ∧ Same w w' := by
  refine fun_of_W (N := 59) Try.func119 ent119 rfl rfl rfl (by simp) ?_
  have H := Hp.start0 w
  refine cut_rule (γ := Unit) _ rfl (fun _ => []) (fun _ w' => Hp.cl H w') ⟨(), trivial, H⟩ ?_
  rintro ⟨⟩ u w0 H1
  replace H : Hp _ _ _ _ _ := H1
  clear H1
  refine cut_rule (γ := Nat × Nat × (Nat → Prop)) _ rfl (fun (g1, _) => [(1, .pointer (some ⟨g1, 0, none⟩))]) (fun (g1, g, S) w' => Hp w (fun _ => False) w' [blk g1 91 (mc 3 (.slice (some ⟨g, 0, none⟩) 3 3))] [MatR S (.slice (some ⟨g, 0, none⟩) 3 3) exS]) ?_ ?_
  · refine H.buildSl T32 (cs := #[.int .i64 0, .int .i64 1]) (by decide) (by decide) (by kernel_rfl) ?_
    clear H
    intro g8 w1 H
    refine H.buildSl T32 (cs := #[.int .i64 1, .int .i64 2]) (by decide) (by decide) (by kernel_rfl) ?_
    clear H
    intro g9 w2 H
    refine H.buildSl T32 (cs := #[.int .i64 0, .int .i64 2]) (by decide) (by decide) (by kernel_rfl) ?_
    clear H
    intro g10 w3 H
    refine H.buildSl T89 (cs := #[.slice (some ⟨g8, 0, none⟩) 2 2, .slice (some ⟨g9, 0, none⟩) 2 2, .slice (some ⟨g10, 0, none⟩) 2 2]) (by decide) (by decide) (by kernel_rfl) ?_
    clear H
    intro g11 w4 H
    refine build91b ?_
    have hm : matOk (fun g => g = g8 ∨ g = g9 ∨ g = g10 ∨ g = g11) (.slice (some ⟨g11, 0, none⟩) 3 3) exS w4 := by
      refine matLit (Q := exS) (H.get 0 rfl) rfl ?_ (.inr (.inr (.inr rfl)))
      have h1 := (hsOk.nil (fun g => g = g8 ∨ g = g9 ∨ g = g10 ∨ g = g11) w4).snoc (rowLit (ks := [0, 1]) (H.get 3 rfl) rfl (.inl rfl))
      have h2 := h1.snoc (rowLit (ks := [1, 2]) (H.get 2 rfl) rfl (.inr (.inl rfl)))
      exact h2.snoc (rowLit (ks := [0, 2]) (H.get 1 rfl) rfl (.inr (.inr (.inl rfl))))
    have H2 := H.freeze.freeze.freeze.freeze.addAll (MatR (fun g => g = g8 ∨ g = g9 ∨ g = g10 ∨ g = g11) (.slice (some ⟨g11, 0, none⟩) 3 3) exS) (fun g hg => by
      rcases hg with rfl | rfl | rfl | rfl
      · exact ⟨_, .head _, rfl⟩
      · exact ⟨_, .tail _ (.head _), rfl⟩
      · exact ⟨_, .tail _ (.tail _ (.head _)), rfl⟩
      · exact ⟨_, .tail _ (.tail _ (.tail _ (.head _))), rfl⟩) hm
    replace H2 := H2.onlyRO
    refine H2.alloc 91 zero91 rfl ?_
    clear H H2
    intro g1 w5 H
    refine H.storeAll 0 rfl size91 rfl (fun v hv => mc_one v hv) ?_
    clear H
    intro w6 H
    exact ⟨(g1, g11, _), ⟨rfl, trivial⟩, H⟩
  clear H
  rintro ⟨g1, g, S⟩ u w1 H
  replace H : Hp _ _ _ _ _ := H
  refine cut_rule (γ := Option Addr × Nat × Int × Int × Int) _ rfl (fun (B, d, a, b, s) => [(2, .slice B 2 d), (3, .int .i64 s), (4, .int .i64 0)]) (fun (B, d, a, b, s) w' => solvesB exS [a, b] = true ∧ Hp w (fun _ => False) w' [own 3 1 (.slice B 2 d) 2 (intsI [a, b]), blk g1 91 (mc 3 (.slice (some ⟨g, 0, none⟩) 3 3))] [MatR S (.slice (some ⟨g, 0, none⟩) 3 3) exS]) ?_ ?_
  · refine H.loadAll 0 rfl agg91 size91 ?_
    refine call_fn (c125 3 exS _ 100 S _ (by decide) (by decide) (by decide) (fun _ => ⟨by decide, by decide⟩) (H.ro 0 rfl) (H.rlt _ (.head _))) ?_
    rintro _ w2 ⟨B, d, G, s, e, rfl, hF, hn⟩
    obtain ⟨hG, rfl, hs⟩ := exS_few hF
    obtain ⟨a, b, rfl⟩ : ∃ a b, G = [a, b] := by
      match G, hG with
      | [a, b], _ => exact ⟨a, b, rfl⟩
    exact ⟨(B, d, a, b, s), ⟨rfl, rfl, rfl, trivial⟩, solvesB_iff.2 hs, H.addNew hn⟩
  clear H
  rintro ⟨B, d, a, b, s⟩ u w2 ⟨hs, H⟩
  replace H : Hp _ _ _ _ _ := H
  refine cut_rule (γ := Unit) _ rfl (fun _ => [(5, .int .i64 1), (6, .int .i64 0)]) (fun _ w' => Hp w (fun _ => False) w' [own 3 1 (.slice B 2 d) 2 (intsI [a, b]), blk g1 91 (mc 3 (.slice (some ⟨g, 0, none⟩) 3 3))] [MatR S (.slice (some ⟨g, 0, none⟩) 3 3) exS]) ?_ ?_
  · refine H.loadAll 1 rfl agg91 size91 ?_
    have hc := c120 3 exS (.slice (some ⟨g, 0, none⟩) 3 3) w2 (by decide) (by decide) (H.matAt 0 rfl)
    rw [exS_right, exS_bound] at hc
    refine call_fn hc ?_
    rintro _ w3 ⟨rfl, hk⟩
    replace H := H.same hk
    clear hk
    exact ⟨(), ⟨rfl, rfl, trivial⟩, H⟩
  clear H
  rintro ⟨⟩ u w3 H
  replace H : Hp _ _ _ _ _ := H
  refine cut_rule (γ := Option Addr × Nat) _ rfl (fun (B2, d2) => [(7, .slice B2 2 d2), (8, .int .i64 0)]) (fun (B2, d2) w' => Hp w (fun _ => False) w' [own 3 1 (.slice B2 2 d2) 2 (intsI [0, 1]), own 3 1 (.slice B 2 d) 2 (intsI [a, b]), blk g1 91 (mc 3 (.slice (some ⟨g, 0, none⟩) 3 3))] [MatR S (.slice (some ⟨g, 0, none⟩) 3 3) exS]) ?_ ?_
  · refine H.loadAll 1 rfl agg91 size91 ?_
    refine call_fn (c121 3 exS _ S _ (by decide) (by decide) (H.ro 0 rfl) (H.rlt _ (.head _))) ?_
    rintro _ w4 ⟨B2, d2, G, e, rfl, hG, hn⟩
    obtain ⟨rfl, rfl⟩ := exS_greedy hG
    exact ⟨(B2, d2), ⟨rfl, rfl, trivial⟩, H.addNew hn⟩
  clear H
  rintro ⟨B2, d2⟩ u w4 H
  replace H : Hp _ _ _ _ _ := H
  have hc93 := fun w5 h1 h2 => c93 3 exS (.slice (some ⟨g, 0, none⟩) 3 3) [a, b] B d w5 (by decide) (by decide) (by simp) h1 h2
  rw [exS_right, hs] at hc93
  refine len_sl Try.underlying32 ?_
  iterate 4 refine cond_yes rfl ?_
  refine H.loadAll 2 rfl agg91 size91 ?_
  iterate 2 refine cond_yes rfl ?_
  refine call_fn (hc93 _ (H.matAt 0 rfl) (own_Sl (H.get 1 rfl))) ?_ 
  rintro _ w12_ ⟨rfl, hk12_⟩ 
  replace H := H.same hk12_ 
  clear hk12_
  iterate 9 refine cond_yes rfl ?_
  refine H.buildSl T32 (cs := #[.int .i64 0, .int .i64 1]) (by decide) (by decide) (by kernel_rfl) ?_
  clear H
  intro g27 w13 H
  have hrow : rowV (fun g => g < w13.heap.size) w13 (.slice (some ⟨g27, 0, none⟩) 2 2) [0, 1] := rowLit (ks := [0, 1]) (H.get 0 rfl) rfl (blk_lt (H.get 0 rfl))
  obtain ⟨B9, c9, hv9, hs9⟩ := hrow
  injection hv9 with e1 e2 e3
  subst e1; subst e3
  refine cond_yes rfl ?_
  refine call_fn (c91 [0, 1] [0, 1] B2 _ d2 _ _ (by decide) (by decide) (own_Sl (H.get 1 rfl)) hs9) ?_
  rintro _ w14 ⟨rfl, hk⟩
  replace H := H.same hk
  clear hk
  iterate 4 refine cond_yes rfl ?_
  exact ⟨rfl, H.keeps⟩
end Go.Proofs.Ytjebpngdinbckaa
end

section
/- SearchBounds. -/
namespace Go.Proofs.Ytjebpngdinbckaa
open Go.Dk
attribute [local irreducible] IntKind.wrap

theorem law24 (cols : Int) (R : Mat) (v1 : Value) (w : World) (hm : MatArg w v1 R) : Fun Try.prog 24 [mv cols v1] w fun v w' => v = .bool true ∧ Same w w' := by
  refine fun_of_W (N := 85) Try.func24 (by kernel_rfl) rfl rfl rfl (by simp) ?_
  have H := startM hm.mat (fun g hg => hg)
  obtain ⟨A, ca, hv1⟩ := hm.mat.form
  subst hv1
  refine cut_rule (γ := Nat) _ rfl (fun g1 => [(1, .pointer (some ⟨g1, 0, none⟩))]) (fun g1 w' => Hp w (fun _ => False) w' [blk g1 91 (mc cols (.slice A R.length ca))] [MatR (fun g => g < w.heap.size) (.slice A R.length ca) R]) ?_ ?_
  · refine H.box 91 (mv _ _) (cs := mc _ _) rfl ?_
    clear H
    intro g1 w1 H
    exact ⟨g1, ⟨rfl, trivial⟩, H⟩
  clear H
  rintro g1 u w1 H
  replace H : Hp _ _ _ _ _ := H
  refine cut_rule (γ := Unit) _ rfl (fun _ => []) (fun _ w' => greatB cols R = false ∧ Hp w (fun _ => False) w' [blk g1 91 (mc cols (.slice A R.length ca))] [MatR (fun g => g < w.heap.size) (.slice A R.length ca) R]) ?_ ?_
  · refine H.loadAll 0 rfl agg91 size91 ?_
    refine call_fn (c118 cols R _ _ hm.len (hm.mat.same H.keeps)) ?_
    rintro _ w2 ⟨rfl, hk⟩
    replace H := H.same hk
    clear hk
    cases hg : greatB cols R with
    | true =>
      refine cond_yes rfl ?_
      refine call_fn (c119 _) ?_
      rintro _ w3 ⟨rfl, hk⟩
      replace H := H.same hk
      exact ⟨rfl, H.keeps⟩
    | false =>
      refine cond_no rfl ?_
      exact ⟨(), trivial, rfl, H⟩
  clear H
  rintro ⟨⟩ u w2 ⟨hg, H⟩
  replace H : Hp _ _ _ _ _ := H
  obtain ⟨hl30, hr100, _⟩ := great_no hg
  have hl : R.length ≤ 1000000000 := by omega
  have hlr : ∀ r ∈ R, r.length ≤ 1000000000 := fun r hr => by have := hr100 r hr; omega
  refine cut_rule (γ := Unit) _ rfl (fun _ => [(3, .int .i64 (if rightB cols R then (boundS R [] : Nat) else 0 : Int)), (4, .int .i64 (if rightB cols R then 0 else 1))]) (fun _ w' => Hp w (fun _ => False) w' [blk g1 91 (mc cols (.slice A R.length ca))] [MatR (fun g => g < w.heap.size) (.slice A R.length ca) R]) ?_ ?_
  · refine H.loadAll 0 rfl agg91 size91 ?_
    refine call_fn (c120 cols R _ _ hl hlr (H.matAt 0 rfl)) ?_
    rintro _ w3 ⟨rfl, hk⟩
    replace H := H.same hk
    clear hk
    exact ⟨(), ⟨rfl, rfl, trivial⟩, H⟩
  clear H
  rintro ⟨⟩ u w3 H
  replace H : Hp _ _ _ _ _ := H
  refine cut_rule (γ := Option Addr × Nat × List Int × Int) _ rfl (fun (B, d, G, e) => [(5, .slice B G.length d), (6, .int .i64 e)]) (fun (B, d, G, e) w' => GreedyR cols R G e ∧ Hp w (fun _ => False) w' [own 3 1 (.slice B G.length d) G.length (intsI G), blk g1 91 (mc cols (.slice A R.length ca))] [MatR (fun g => g < w.heap.size) (.slice A R.length ca) R]) ?_ ?_
  · refine H.loadAll 0 rfl agg91 size91 ?_
    refine call_fn (c121 cols R _ _ _ (by omega) hlr (H.ro 0 rfl) (H.rlt _ (.head _))) ?_
    rintro _ w4 ⟨B, d, G, e, rfl, hG, hn⟩
    exact ⟨(B, d, G, e), ⟨rfl, rfl, trivial⟩, hG, H.addNew hn⟩
  clear H
  rintro ⟨B, d, G, e⟩ u w4 ⟨hG, H⟩
  replace H : Hp _ _ _ _ _ := H
  refine cut_rule (γ := Unit) _ rfl (fun _ => []) (fun _ w' => rightB cols R = true ∧ Hp w (fun _ => False) w' [own 3 1 (.slice B G.length d) G.length (intsI G), blk g1 91 (mc cols (.slice A R.length ca))] [MatR (fun g => g < w.heap.size) (.slice A R.length ca) R]) ?_ ?_
  · refine fieldAddr_by (fa91_0 _) ?_
    refine H.load 1 rfl agg3 rfl ?_
    refine fieldAddr_by (fa91_1 _) ?_
    refine H.load 1 rfl agg89 rfl ?_
    refine call_fn (c84 cols R _ _ hl hlr (H.matAt 0 rfl)) ?_
    rintro _ w5 ⟨rfl, hk⟩
    replace H := H.same hk
    clear hk
    cases hr : rightB cols R with
    | false =>
      obtain ⟨rfl, rfl⟩ : G = [] ∧ e = 1 := by
        rcases hG with ⟨_, h2, h3⟩ | ⟨h1, _⟩ | ⟨h1, _⟩
        · exact ⟨h2, h3⟩
        · rw [hr] at h1; cases h1
        · rw [hr] at h1; cases h1
      refine cond_yes rfl ?_
      iterate 5 refine cond_yes rfl ?_
      refine len_sl Try.underlying32 ?_
      iterate 6 refine cond_yes rfl ?_
      refine call_fn (c119 _) ?_ 
      rintro _ w18_ ⟨rfl, hk18_⟩ 
      replace H := H.same hk18_ 
      clear hk18_
      refine cond_yes rfl ?_
      exact ⟨rfl, H.keeps⟩
    | true =>
      refine cond_no rfl ?_
      exact ⟨(), trivial, rfl, H⟩
  clear H
  rintro ⟨⟩ u w5 ⟨hr, H⟩
  replace H : Hp _ _ _ _ _ := H
  have hright := rightB_iff.1 hr
  obtain ⟨n, rfl⟩ : ∃ n : Nat, cols = n := ⟨cols.toNat, by have := hright.ge; omega⟩
  have hn4 : n ≤ 4000 := by have := hright.le; omega
  refine cut_rule (γ := Unit) _ rfl (fun _ => []) (fun _ w' => Hp w (fun _ => False) w' [own 3 1 (.slice B G.length d) G.length (intsI G), blk g1 91 (mc n (.slice A R.length ca))] [MatR (fun g => g < w.heap.size) (.slice A R.length ca) R]) ?_ ?_
  · refine fieldAddr_by (fa91_1 _) ?_
    refine H.load 1 rfl agg89 rfl ?_
    refine call_fn (c122 R _ _ (by omega) (fun r hr => by have := hr100 r hr; omega) (H.matAt 0 rfl)) ?_
    rintro _ w6 ⟨rfl, hk⟩
    replace H := H.same hk
    clear hk
    have e1 : (if rightB (n : Int) R = true then ((boundS R [] : Nat) : Int) else 0) = ((boundS R [] : Nat) : Int) := if_pos hr
    have e2 : (if rightB (n : Int) R = true then (0 : Int) else 1) = 0 := if_pos hr
    refine cond_no (bne_eq_false_iff_eq.2 e1) ?_
    refine cond_no (bne_eq_false_iff_eq.2 e1) ?_
    refine cond_no (bne_eq_false_iff_eq.2 e1) ?_
    refine cond_no (bne_eq_false_iff_eq.2 (by omega)) ?_
    exact ⟨(), trivial, H⟩
  clear H
  rintro ⟨⟩ u w6 H
  replace H : Hp _ _ _ _ _ := H
  refine cut_rule (γ := Unit) _ rfl (fun _ => []) (fun _ w' => bareB R = false ∧ Hp w (fun _ => False) w' [own 3 1 (.slice B G.length d) G.length (intsI G), blk g1 91 (mc n (.slice A R.length ca))] [MatR (fun g => g < w.heap.size) (.slice A R.length ca) R]) ?_ ?_
  · refine fieldAddr_by (fa91_1 _) ?_
    refine H.load 1 rfl agg89 rfl ?_
    refine call_fn (c123 R _ _ hl (H.matAt 0 rfl)) ?_
    rintro _ w7 ⟨rfl, hk⟩
    replace H := H.same hk
    clear hk
    cases hb : bareB R with
    | true =>
      obtain ⟨rfl, rfl⟩ : G = [] ∧ e = 7 := by
        rcases hG with ⟨h1, _⟩ | ⟨_, _, h2, h3⟩ | ⟨_, h1, _⟩
        · rw [hr] at h1; cases h1
        · exact ⟨h2, h3⟩
        · rw [hb] at h1; cases h1
      refine cond_yes rfl ?_
      refine len_sl Try.underlying32 ?_
      iterate 4 refine cond_yes rfl ?_
      refine call_fn (c119 _) ?_ 
      rintro _ w13_ ⟨rfl, hk13_⟩ 
      replace H := H.same hk13_ 
      clear hk13_
      refine cond_yes rfl ?_
      exact ⟨rfl, H.keeps⟩
    | false =>
      refine cond_no rfl ?_
      exact ⟨(), trivial, rfl, H⟩
  clear H
  rintro ⟨⟩ u w7 ⟨hb, H⟩
  replace H : Hp _ _ _ _ _ := H
  obtain ⟨rfl, l, hgl, hGl⟩ : e = 0 ∧ ∃ l, Greedy R l ∧ G = risen n l := by
    rcases hG with ⟨h1, _⟩ | ⟨_, h1, _⟩ | ⟨_, _, h2, h3⟩
    · rw [hr] at h1; cases h1
    · rw [hb] at h1; cases h1
    · rw [Int.toNat_natCast] at h3; exact ⟨h2, h3⟩
  have hbare : [] ∉ R := fun h => by rw [bareB_iff.2 h] at hb; cases hb
  have hGn : G.length ≤ 1000000000 := by have := risen_len_le n l; rw [hGl]; omega
  have hsol : solvesB R G = true := by rw [hGl]; exact solvesB_iff.2 (risen_solves hright (greedy_solves hgl))
  have hc93 := fun w5 h1 h2 => c93 n R (.slice A R.length ca) G B d w5 hl hlr hGn h1 h2
  rw [hr, hsol] at hc93
  refine fieldAddr_by (fa91_1 _) ?_
  refine H.load 1 rfl agg89 rfl ?_
  refine fieldAddr_by (fa91_0 _) ?_
  refine H.load 1 rfl agg3 rfl ?_
  refine call_fn (c124 n R _ _ _ (by omega) hright hbare (H.ro 0 rfl) (H.rlt _ (.head _))) ?_
  rintro _ w8 ⟨B2, d2, l2, rfl, hgl2, hn⟩
  obtain rfl := greedy_unique hgl2 hgl
  rw [← hGl] at hn
  have hc91 := fun w9 h1 h2 => c91 G G B B2 d d2 w9 hGn hGn h1 h2
  rw [decide_eq_true (show G = G from rfl)] at hc91
  have eG : (risen n l2).length = G.length := by rw [hGl]
  rw [eG]
  replace H := H.addNew hn
  refine call_fn (hc91 _ (own_Sl (H.get 1 rfl)) (own_Sl (H.get 0 rfl))) ?_
  rintro _ w9 ⟨rfl, hk⟩
  replace H := H.same hk
  clear hk
  iterate 4 refine cond_yes rfl ?_
  refine H.loadAll 2 rfl agg91 size91 ?_
  iterate 2 refine cond_yes rfl ?_
  refine call_fn (hc93 _ (H.matAt 0 rfl) (own_Sl (H.get 1 rfl))) ?_ 
  rintro _ w17_ ⟨rfl, hk17_⟩ 
  replace H := H.same hk17_ 
  clear hk17_
  iterate 2 refine cond_yes rfl ?_
  refine call_fn (c119 _) ?_ 
  rintro _ w20_ ⟨rfl, hk20_⟩ 
  replace H := H.same hk20_ 
  clear hk20_
  refine cond_yes rfl ?_
  exact ⟨rfl, H.keeps⟩
end Go.Proofs.Ytjebpngdinbckaa
end

section
/- SearchFewest. -/
namespace Go.Proofs.Ytjebpngdinbckaa
open Go.Dk
attribute [local irreducible] IntKind.wrap

theorem law25 (cols : Int) (R : Mat) (v1 : Value) (w : World) (hm : MatArg w v1 R) : Fun Try.prog 25 [mv cols v1] w fun v w' => v = .bool true ∧ Same w w' := by
  refine fun_of_W (N := 123) Try.func25 (by kernel_rfl) rfl rfl rfl (by simp) ?_
  have H := startM hm.mat (fun g hg => hg)
  obtain ⟨A, ca, hv1⟩ := hm.mat.form
  subst hv1
  refine cut_rule (γ := Nat) _ rfl (fun g1 => [(1, .pointer (some ⟨g1, 0, none⟩))]) (fun g1 w' => Hp w (fun _ => False) w' [blk g1 91 (mc cols (.slice A R.length ca))] [MatR (fun g => g < w.heap.size) (.slice A R.length ca) R]) ?_ ?_
  · refine H.box 91 (mv _ _) (cs := mc _ _) rfl ?_
    clear H
    intro g1 w1 H
    exact ⟨g1, ⟨rfl, trivial⟩, H⟩
  clear H
  rintro g1 u w1 H
  replace H : Hp _ _ _ _ _ := H
  refine cut_rule (γ := Unit) _ rfl (fun _ => []) (fun _ w' => (greatB cols R = false ∧ cols ≤ 9) ∧ Hp w (fun _ => False) w' [blk g1 91 (mc cols (.slice A R.length ca))] [MatR (fun g => g < w.heap.size) (.slice A R.length ca) R]) ?_ ?_
  · refine H.loadAll 0 rfl agg91 size91 ?_
    refine call_fn (c118 cols R _ _ hm.len (hm.mat.same H.keeps)) ?_
    rintro _ w2 ⟨rfl, hk⟩
    replace H := H.same hk
    clear hk
    cases hg : greatB cols R with
    | true =>
      iterate 5 refine cond_yes rfl ?_
      refine call_fn (c119 _) ?_
      rintro _ w3 ⟨rfl, hk⟩
      replace H := H.same hk
      exact ⟨rfl, H.keeps⟩
    | false =>
      refine cond_no rfl ?_
      refine fieldAddr_by (fa91_0 _) ?_
      refine cond_no rfl ?_
      refine H.load 0 rfl agg3 rfl ?_
      iterate 2 refine cond_no rfl ?_
      refine cond_dec (fun h9 => ?_) (fun h9 => ?_)
      · refine call_fn (c119 _) ?_ 
        rintro _ w10_ ⟨rfl, hk10_⟩ 
        replace H := H.same hk10_ 
        clear hk10_
        exact ⟨rfl, H.keeps⟩
      · exact ⟨(), trivial, ⟨rfl, by omega⟩, H⟩
  clear H
  rintro ⟨⟩ u w2 ⟨⟨hg, hc9⟩, H⟩
  replace H : Hp _ _ _ _ _ := H
  obtain ⟨hl30, hr100, _⟩ := great_no hg
  have hl : R.length ≤ 1000000000 := by omega
  have hlr : ∀ r ∈ R, r.length ≤ 1000000000 := fun r hr => by have := hr100 r hr; omega
  refine cut_rule (γ := Option Addr × Nat × List Int × Int × Int) _ rfl (fun (B, d, G, s, e) => [(3, .slice B G.length d), (4, .int .i64 s), (5, .int .i64 e)]) (fun (B, d, G, s, e) w' => FewR cols R 1024 G s e ∧ Hp w (fun _ => False) w' [own 3 1 (.slice B G.length d) G.length (intsI G), blk g1 91 (mc cols (.slice A R.length ca))] [MatR (fun g => g < w.heap.size) (.slice A R.length ca) R]) ?_ ?_
  · refine H.loadAll 0 rfl agg91 size91 ?_
    refine call_fn (c125 cols R _ 1024 _ _ (by omega) hlr (by decide) (fun hr => ⟨by omega, ?_⟩) (H.ro 0 rfl) (H.rlt _ (.head _))) ?_
    · exact Nat.le_trans (Nat.pow_le_pow_right (n := 2) (by decide) (show cols.toNat ≤ 9 by omega)) (by decide)
    rintro _ w4 ⟨B, d, G, s, e, rfl, hG, hn⟩
    exact ⟨(B, d, G, s, e), ⟨rfl, rfl, rfl, trivial⟩, hG, H.addNew hn⟩
  clear H
  rintro ⟨B, d, G, s, e⟩ u w4 ⟨hG, H⟩
  replace H : Hp _ _ _ _ _ := H
  refine cut_rule (γ := Unit) _ rfl (fun _ => []) (fun _ w' => rightB cols R = true ∧ Hp w (fun _ => False) w' [own 3 1 (.slice B G.length d) G.length (intsI G), blk g1 91 (mc cols (.slice A R.length ca))] [MatR (fun g => g < w.heap.size) (.slice A R.length ca) R]) ?_ ?_
  · refine fieldAddr_by (fa91_0 _) ?_
    refine H.load 1 rfl agg3 rfl ?_
    refine fieldAddr_by (fa91_1 _) ?_
    refine H.load 1 rfl agg89 rfl ?_
    refine call_fn (c84 cols R _ _ hl hlr (H.matAt 0 rfl)) ?_
    rintro _ w5 ⟨rfl, hk⟩
    replace H := H.same hk
    clear hk
    cases hr : rightB cols R with
    | false =>
      obtain ⟨rfl, rfl, rfl⟩ : G = [] ∧ s = 0 ∧ e = 1 := by
        rcases hG with ⟨_, h2, h3⟩ | ⟨h1, _⟩ | ⟨h1, _⟩
        · exact ⟨h2, h3⟩
        · rw [hr] at h1; cases h1
        · rw [hr] at h1; cases h1
      refine cond_yes rfl ?_
      refine len_sl Try.underlying32 ?_
      iterate 7 refine cond_yes rfl ?_
      refine call_fn (c119 _) ?_ 
      rintro _ w13_ ⟨rfl, hk13_⟩ 
      replace H := H.same hk13_ 
      clear hk13_
      refine cond_yes rfl ?_
      exact ⟨rfl, H.keeps⟩
    | true =>
      refine cond_no rfl ?_
      exact ⟨(), trivial, rfl, H⟩
  clear H
  rintro ⟨⟩ u w5 ⟨hr, H⟩
  replace H : Hp _ _ _ _ _ := H
  have hright := rightB_iff.1 hr
  obtain ⟨n, rfl⟩ : ∃ n : Nat, cols = n := ⟨cols.toNat, by have := hright.ge; omega⟩
  refine cut_rule (γ := Unit) _ rfl (fun _ => []) (fun _ w' => bareB R = false ∧ Hp w (fun _ => False) w' [own 3 1 (.slice B G.length d) G.length (intsI G), blk g1 91 (mc n (.slice A R.length ca))] [MatR (fun g => g < w.heap.size) (.slice A R.length ca) R]) ?_ ?_
  · refine fieldAddr_by (fa91_1 _) ?_
    refine H.load 1 rfl agg89 rfl ?_
    refine call_fn (c123 R _ _ hl (H.matAt 0 rfl)) ?_
    rintro _ w7 ⟨rfl, hk⟩
    replace H := H.same hk
    clear hk
    cases hb : bareB R with
    | true =>
      obtain ⟨rfl, rfl, rfl⟩ : G = [] ∧ s = 0 ∧ e = 7 := by
        rcases hG with ⟨h1, _⟩ | ⟨_, _, h2, h3⟩ | ⟨_, h1, _⟩
        · rw [hr] at h1; cases h1
        · exact ⟨h2, h3⟩
        · rw [hb] at h1; cases h1
      refine cond_yes rfl ?_
      refine len_sl Try.underlying32 ?_
      iterate 7 refine cond_yes rfl ?_
      refine call_fn (c119 _) ?_ 
      rintro _ w14_ ⟨rfl, hk14_⟩ 
      replace H := H.same hk14_ 
      clear hk14_
      refine cond_yes rfl ?_
      exact ⟨rfl, H.keeps⟩
    | false =>
      refine cond_no rfl ?_
      exact ⟨(), trivial, rfl, H⟩
  clear H
  rintro ⟨⟩ u w7 ⟨hb, H⟩
  replace H : Hp _ _ _ _ _ := H
  obtain ⟨rfl, ⟨hs0, hs1⟩, ⟨b0, hGb⟩, hbest, hsol⟩ : e = 0 ∧ (0 ≤ s ∧ s ≤ (1024 : Nat)) ∧ (∃ b, G = risen n b) ∧ IsBest n R (G.length : Int) ∧ SolvesM R G := by
    rcases hG with ⟨h1, _⟩ | ⟨_, h1, _⟩ | ⟨_, _, h2, h3⟩
    · rw [hr] at h1; cases h1
    · rw [hb] at h1; cases h1
    · rw [Int.toNat_natCast] at h3; exact ⟨h2, h3⟩
  have hrise := risen_rise n b0
  have hrng : ∀ k ∈ G, 0 ≤ k ∧ k < n := fun k hk => by rw [hGb] at hk; exact (mem_risen.1 hk).1
  have hGn : G.length ≤ 9 := by have := risen_len_le n b0; rw [hGb]; omega
  rw [← hGb] at hrise
  refine cut_rule (γ := Unit) _ rfl (fun _ => []) (fun _ w' => Hp w (fun _ => False) w' [own 3 1 (.slice B G.length d) G.length (intsI G), blk g1 91 (mc n (.slice A R.length ca))] [MatR (fun g => g < w.heap.size) (.slice A R.length ca) R]) ?_ ?_
  · refine loop_rule (γ := Nat) _ rfl (fun i => [(6, .int .i64 (i : Int))]) (fun i w' => i ≤ G.length ∧ Hp w (fun _ => False) w' [own 3 1 (.slice B G.length d) G.length (intsI G), blk g1 91 (mc n (.slice A R.length ca))] [MatR (fun g => g < w.heap.size) (.slice A R.length ca) R]) (fun i => G.length - i) 0 ⟨rfl, trivial⟩ ⟨Nat.zero_le _, H⟩ ?_
    clear H
    rintro i u w8 ⟨hi, H⟩
    replace H : Hp _ _ _ _ _ := H
    refine len_sl Try.underlying32 ?_
    refine cond_dec (fun h8 => ?_) (fun h8 => ?_)
    · obtain ⟨k, hk⟩ : ∃ k, G[i]? = some k := ⟨_, List.getElem?_eq_getElem (by omega)⟩
      obtain ⟨gb, rfl⟩ := own_base (H.get 0 rfl) (by omega)
      have hgk : (intsI G)[i]? = some (.int .i64 k) := by rw [intsI, List.getElem?_map, hk]; rfl
      have hkr := hrng k (List.mem_of_getElem? hk)
      refine cut_rule (γ := Unit) _ rfl (fun _ => []) (fun _ w' => Hp w (fun _ => False) w' [own 3 1 (.slice (some ⟨gb, 0, none⟩) G.length d) G.length (intsI G), blk g1 91 (mc n (.slice A R.length ca))] [MatR (fun g => g < w.heap.size) (.slice A R.length ca) R]) ?_ ?_
      · refine H.draw fol (by kernel_rfl) ?_
        clear H
        intro w9 H
        rcases Nat.eq_zero_or_pos i with rfl | hi0
        · refine quiet _ (fun w H => idxAddr_sl Try.underlying32 (s := 1) size3 0 rfl (by omega) (o' := 0) (by omega) ⟨rfl, rfl⟩) ?_
          refine quiet _ (fun w H => H.loadOwn 0 rfl agg3 hgk ⟨rfl, rfl⟩) ?_
          iterate 3 refine cond_no (decide_eq_false (by omega)) ?_
          refine quiet _ (fun w H => idxAddr_sl Try.underlying32 (s := 1) size3 0 rfl (by omega) (o' := 0) (by omega) ⟨rfl, rfl⟩) ?_
          refine cond_no (decide_eq_false (by omega)) ?_
          refine quiet _ (fun w H => H.loadOwn 0 rfl agg3 hgk ⟨rfl, rfl⟩) ?_
          refine cond_no (decide_eq_false (by omega)) ?_
          refine quiet _ (fun w H => fieldAddr_by (fa91_0 _) ⟨rfl, rfl⟩) ?_
          refine cond_no (decide_eq_false (by omega)) ?_
          refine quiet _ (fun w H => H.load 1 rfl agg3 rfl ⟨rfl, rfl⟩) ?_
          iterate 5 refine cond_no (decide_eq_false (by omega)) ?_
          iterate 10 refine cond_no rfl ?_
          refine cond_no (decide_eq_false (by omega)) ?_
          refine cond_no rfl ?_
          refine cond_no (decide_eq_false (by omega)) ?_
          refine cond_no rfl ?_
          exact ⟨(), trivial, H⟩
        · obtain ⟨k0, hk0⟩ : ∃ k0, G[i - 1]? = some k0 := ⟨_, List.getElem?_eq_getElem (by omega)⟩
          have hgk0 : (intsI G)[i - 1]? = some (.int .i64 k0) := by rw [intsI, List.getElem?_map, hk0]; rfl
          have hlt : k0 < k := by
            obtain ⟨h1, e1⟩ := List.getElem?_eq_some_iff.1 hk0
            obtain ⟨h2, e2⟩ := List.getElem?_eq_some_iff.1 hk
            have := (List.pairwise_iff_getElem.1 hrise) (i - 1) i h1 h2 (by omega)
            rw [e1, e2] at this
            exact this
          have hw : IntKind.i64.wrap ((i : Int) - 1) = ((i - 1 : Nat) : Int) := by rw [wrap_i64_in (by omega) (by omega)]; omega
          refine quiet _ (fun w H => idxAddr_sl Try.underlying32 (s := 1) size3 i rfl (by omega) (o' := i) (by omega) ⟨rfl, rfl⟩) ?_
          refine quiet _ (fun w H => H.loadOwn 0 rfl agg3 hgk ⟨rfl, rfl⟩) ?_
          iterate 3 refine cond_no (decide_eq_false (by omega)) ?_
          refine quiet _ (fun w H => idxAddr_sl Try.underlying32 (s := 1) size3 i rfl (by omega) (o' := i) (by omega) ⟨rfl, rfl⟩) ?_
          refine cond_no (decide_eq_false (by omega)) ?_
          refine quiet _ (fun w H => H.loadOwn 0 rfl agg3 hgk ⟨rfl, rfl⟩) ?_
          refine cond_no (decide_eq_false (by omega)) ?_
          refine quiet _ (fun w H => fieldAddr_by (fa91_0 _) ⟨rfl, rfl⟩) ?_
          refine cond_no (decide_eq_false (by omega)) ?_
          refine quiet _ (fun w H => H.load 1 rfl agg3 rfl ⟨rfl, rfl⟩) ?_
          iterate 5 refine cond_no (decide_eq_false (by omega)) ?_
          iterate 4 refine cond_yes (decide_eq_true (by omega)) ?_
          refine quiet _ (fun w H => idxAddr_sl Try.underlying32 (s := 1) size3 (i - 1) hw (by omega) (o' := i - 1) (by omega) ⟨rfl, rfl⟩) ?_
          refine cond_yes (decide_eq_true (by omega)) ?_
          refine quiet _ (fun w H => H.loadOwn 0 rfl agg3 hgk0 ⟨rfl, rfl⟩) ?_
          iterate 3 refine cond_yes (decide_eq_true (by omega)) ?_
          refine quiet _ (fun w H => idxAddr_sl Try.underlying32 (s := 1) size3 i rfl (by omega) (o' := i) (by omega) ⟨rfl, rfl⟩) ?_
          refine cond_yes (decide_eq_true (by omega)) ?_
          refine quiet _ (fun w H => H.loadOwn 0 rfl agg3 hgk ⟨rfl, rfl⟩) ?_
          refine cond_yes (decide_eq_true (by omega)) ?_
          refine cond_no (decide_eq_false (by omega)) ?_
          refine cond_yes (decide_eq_true (by omega)) ?_
          iterate 2 refine cond_no (decide_eq_false (by omega)) ?_
          exact ⟨(), trivial, H⟩
      · clear H
        rintro ⟨⟩ u w9 H
        exact ⟨i + 1, by show G.length - (i + 1) < G.length - i; omega, ⟨up (by omega), trivial⟩, by show i + 1 ≤ G.length; omega, H⟩
    · exact ⟨(), trivial, H⟩
  clear H
  rintro ⟨⟩ u w8 H
  replace H : Hp _ _ _ _ _ := H
  have hc126 := fun w5 h1 h2 => c126 R (.slice A R.length ca) G B d w5 hl hlr (by omega) h1 h2
  rw [solvesB_iff.2 hsol] at hc126
  iterate 3 refine cond_yes rfl ?_
  iterate 4 refine cond_yes (decide_eq_true (by assumption)) ?_
  refine fieldAddr_by (fa91_1 _) ?_
  refine cond_yes (decide_eq_true (by assumption)) ?_
  refine H.load 1 rfl agg89 rfl ?_
  iterate 2 refine cond_yes (decide_eq_true (by assumption)) ?_
  refine call_fn (hc126 _ (H.matAt 0 rfl) (own_Sl (H.get 0 rfl))) ?_ 
  rintro _ w19_ ⟨rfl, hk19_⟩ 
  replace H := H.same hk19_ 
  clear hk19_
  refine cond_yes (decide_eq_true (by assumption)) ?_
  iterate 2 refine cond_yes rfl ?_
  refine len_sl Try.underlying32 ?_
  refine cond_yes rfl ?_
  refine fieldAddr_by (fa91_0 _) ?_
  refine cond_yes rfl ?_
  refine H.load 1 rfl agg3 rfl ?_
  refine cond_yes rfl ?_
  refine fieldAddr_by (fa91_1 _) ?_
  refine cond_yes rfl ?_
  refine H.load 1 rfl agg89 rfl ?_
  refine cond_yes rfl ?_
  refine call_fn (c92 n (by omega) R _ _ hl hlr (H.matAt 0 rfl)) ?_ 
  rintro _ w33_ ⟨b1, rfl, hb1, hk33_⟩ 
  replace H := H.same hk33_ 
  clear hk33_ 
  obtain rfl := best_unique hb1 hbest
  iterate 2 refine cond_yes rfl ?_
  refine cond_yes (beq_self_eq_true _) ?_
  refine call_fn (c119 _) ?_ 
  rintro _ w37_ ⟨rfl, hk37_⟩ 
  replace H := H.same hk37_ 
  clear hk37_
  refine cond_yes (beq_self_eq_true _) ?_
  exact ⟨rfl, H.keeps⟩
end Go.Proofs.Ytjebpngdinbckaa
end

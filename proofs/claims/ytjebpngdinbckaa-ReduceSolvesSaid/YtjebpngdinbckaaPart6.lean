import Derived.Test.YtjebpngdinbckaaPart5
/- Lemmas, part 6: what the proof of the row uses. -/
section
/- Coverings: Rows. -/
namespace Go.Proofs.Ytjebpngdinbckaa
open Go.Dk
attribute [local irreducible] IntKind.wrap

/-- Rows, as it is called. -/
def rowsO (cols : Int) (R : Mat) : Option Mat := if rightB cols R then rowsS R else none
theorem rows_found {R : Mat} {i k : Nat} (hno : ∀ i', i' < i → (List.range R.length).any (domR R i') = false) (hi : i < R.length) (hk : k < R.length) (hd : domR R i k = true) : rowsS R = some (R.eraseIdx i) := by
  unfold rowsS rowsI
  rw [find_at (i := i) (x := i) (fun y hy => ?_) (by rw [List.getElem?_range hi]) (List.any_eq_true.2 ⟨k, List.mem_range.2 hk, hd⟩)]
  · rfl
  · rw [List.take_range, Nat.min_eq_left (by omega)] at hy
    exact hno y (List.mem_range.1 hy)
theorem rows_none {R : Mat} (hno : ∀ i', i' < R.length → (List.range R.length).any (domR R i') = false) : rowsS R = none := by
  unfold rowsS rowsI
  rw [List.find?_eq_none.2 (fun y hy => by rw [hno y (List.mem_range.1 hy)]; decide)]; rfl
theorem any_no {n : Nat} {p : Nat → Bool} (h : ∀ k, k < n → p k = false) : (List.range n).any p = false := by
  rw [Bool.eq_false_iff]
  intro hh
  obtain ⟨k, hk, hp⟩ := List.any_eq_true.1 hh
  rw [h k (List.mem_range.1 hk)] at hp; cases hp
theorem lt_snoc {n : Nat} {p : Nat → Bool} (h : ∀ k, k < n → p k = false) (hn : p n = false) : ∀ k, k < n + 1 → p k = false := fun k hk => by
  rcases Nat.lt_or_ge k n with hlt | hge
  · exact h k hlt
  · obtain rfl : k = n := by omega
    exact hn
theorem dom_at {R : Mat} {i k : Nat} {x y : List Int} (hx : R[i]? = some x) (hy : R[k]? = some y) : domR R i k = ((k != i) && withinB y x && (decide (y.length < x.length) || decide (k < i))) := by
  unfold domR
  rw [List.getD_eq_getElem?_getD, List.getD_eq_getElem?_getD, hx, hy]; rfl
theorem ent82 : enters Try.prog 82 = true := by kernel_rfl
theorem c82 (cols : Int) (R : Mat) (v1 : Value) (S : Nat → Prop) (w : World) (hl : R.length ≤ 1000000000) (hlr : ∀ r ∈ R, r.length ≤ 1000000000) (h1 : matOk S v1 R w) (hS : ∀ g, S g → g < w.heap.size) :
    Fun Try.prog 82 [mv cols v1] w fun v w' => ∃ v', v = .tuple #[mv cols v', .bool (rowsO cols R).isSome] ∧ NewM S w w' v' ((rowsO cols R).getD R) := by
  refine fun_of_W (N := 54) Try.func82 ent82 rfl rfl rfl (by simp) ?_
  have H := startM h1 hS
  have h1' : MatAt w v1 R := MatR.mono h1 hS
  obtain ⟨A, ca, va, rfl, ha, hra⟩ := h1'.openM
  refine H.box 91 (mv _ _) (cs := mc _ _) rfl ?_
  clear H
  intro g1 w1 H
  refine H.alloc 91 zero91 rfl ?_
  clear H
  intro g2 w2 H
  refine H.loadAll 1 rfl agg91 size91 ?_
  refine call_fn (c171 cols R _ _ hl hlr (h1'.same H.keeps)) ?_
  rintro _ w3 ⟨rfl, hk⟩
  replace H := H.same hk
  clear hk
  refine cond_split (fun hr => ?_) (fun hr => ?_)
  · have hno : rowsO cols R = none := by unfold rowsO; rw [if_neg]; simpa using hr
    rw [hno]
    refine H.loadAll 1 rfl agg91 size91 ?_
    refine H.storeAll 0 rfl size91 rfl (fun v hv => mc_one v hv) ?_
    clear H
    intro w4 H
    refine H.loadAll 0 rfl agg91 size91 ?_
    refine ⟨rfl, ?_⟩
    exact ⟨_, rfl, H.outM fun g hg => .inr hg⟩
  · have hr' : rightB cols R = true := by simpa using hr
    have htk : rowsO cols R = rowsS R := by unfold rowsO; rw [if_pos hr']
    rw [htk]
    refine cut_rule (γ := Unit) _ rfl (fun _ => []) (fun _ w' => (∀ i, i < R.length → (List.range R.length).any (domR R i) = false) ∧ Hp.cl H w') ?_ ?_
    · refine fieldAddr_by (fa91_1 _) ?_
      refine H.load 1 rfl agg89 rfl ?_
      refine len_sl Try.underlying89 ?_
      refine loop_rule (γ := Nat) _ rfl (fun i => [(15, .int .i64 (i : Int))]) (fun i w' => (i ≤ R.length ∧ ∀ i', i' < i → (List.range R.length).any (domR R i') = false) ∧ Hp.cl H w') (fun i => R.length - i) 0 ⟨rfl, trivial⟩ ⟨⟨Nat.zero_le _, fun i' h => by omega⟩, H⟩ ?_
      rintro i u w4 ⟨⟨hi, hno⟩, H1⟩
      replace H : Hp _ _ _ _ _ := H1
      clear H1
      refine cond_dec (fun h7 => ?_) (fun h7 => ?_)
      · obtain ⟨x, hx⟩ : ∃ x, R[i]? = some x := ⟨_, List.getElem?_eq_getElem (by omega)⟩
        obtain ⟨g0, o0, rfl⟩ := ha.A (by omega)
        obtain ⟨Bx, cx, hget, hsx⟩ := hra i x hx
        have hxl := hlr x (List.mem_of_getElem? hx)
        refine cut_rule (γ := Unit) _ rfl (fun _ => []) (fun _ w' => (∀ k, k < R.length → domR R i k = false) ∧ Hp.cl H w') ?_ ?_
        · refine idxAddr_sl Try.underlying89 (s := 1) size32 i rfl (by omega) (o' := o0 + i) (by omega) ?_
          refine H.loadSl (i := i) ha aggrow _ rfl hget ?_
          refine H.alloc 3 zero3 rfl ?_
          intro g7 w5 H2
          refine H2.store 0 rfl size3 (by show 0 < 1; decide) rfl ?_
          clear H2
          intro w6 H2
          replace H2 : Hp w (fun _ => False) w6 [blk g7 3 #[.int .i64 i], blk g2 91 (mv 0 (.slice none 0 0)).cells, blk g1 91 (mc cols (.slice (some ⟨g0, o0, none⟩) R.length ca))] [MatR S (.slice (some ⟨g0, o0, none⟩) R.length ca) R] := H2
          refine fieldAddr_by (fa91_1 _) ?_
          refine H2.load 2 rfl agg89 rfl ?_
          refine len_sl Try.underlying89 ?_
          refine loop_rule (γ := Nat) _ rfl (fun k => [(23, .int .i64 (k : Int))]) (fun k w' => (k ≤ R.length ∧ ∀ k', k' < k → domR R i k' = false) ∧ Hp.cl H2 w') (fun k => R.length - k) 0 ⟨rfl, trivial⟩ ⟨⟨Nat.zero_le _, fun i' h => by omega⟩, H2⟩ ?_
          rintro k u w7 ⟨⟨hkk, hnk⟩, H1⟩
          replace H2 : Hp _ _ _ _ _ := H1
          clear H1
          refine cond_dec (fun h8 => ?_) (fun h8 => ?_)
          · obtain ⟨y, hy⟩ : ∃ y, R[k]? = some y := ⟨_, List.getElem?_eq_getElem (by omega)⟩
            obtain ⟨By, cy, hgety, hsy⟩ := hra k y hy
            have hyl := hlr y (List.mem_of_getElem? hy)
            have hdom := dom_at hx hy
            refine cut_rule (γ := Unit) _ rfl (fun _ => []) (fun _ w' => domR R i k = false ∧ Hp.cl H2 w') ?_ ?_
            · refine cut_rule (γ := Unit) _ rfl (fun _ => [(6, .int .i64 (k : Int)), (7, .slice By y.length cy)]) (fun _ w' => Hp.cl H2 w') ?_ ?_
              · refine idxAddr_sl Try.underlying89 (s := 1) size32 k rfl (by omega) (o' := o0 + k) (by omega) ?_
                refine H2.loadSl (i := k) ha aggrow _ rfl hgety ?_
                exact ⟨(), ⟨rfl, rfl, trivial⟩, H2⟩
              · rintro ⟨⟩ u w8 H1
                replace H2 : Hp _ _ _ _ _ := H1
                clear H1
                refine cut_rule (γ := Unit) _ rfl (fun _ => [(47, .bool (domR R i k))]) (fun _ w' => Hp.cl H2 w') ?_ ?_
                · refine H2.load 0 rfl agg3 rfl ?_
                  refine cond_bne (fun h10 => ?_) (fun h10 => ?_)
                  · have hki : (k != i) = true := by simp; omega
                    refine cond_yes (bne_iff_ne.2 (by omega)) ?_
                    refine cond_yes (bne_iff_ne.2 (by omega)) ?_
                    refine call_fn (c175 y x By Bx cy cx _ hyl hxl (hsy.same H2.keeps) (hsx.same H2.keeps)) ?_
                    rintro _ w13 ⟨rfl, hk13⟩
                    replace H2 := H2.same hk13
                    clear hk13
                    refine cond_yes (bne_iff_ne.2 (by omega)) ?_
                    refine cond_split (fun h15 => ?_) (fun h15 => ?_)
                    · refine cond_yes (by assumption) ?_
                      refine len_sl Try.underlying32 ?_
                      iterate 2 refine cond_yes (by assumption) ?_
                      refine len_sl Try.underlying32 ?_
                      iterate 2 refine cond_yes (by assumption) ?_
                      refine cond_dec (fun h23 => ?_) (fun h23 => ?_)
                      · refine cond_yes (decide_eq_true (by assumption)) ?_
                        refine cond_yes (decide_eq_true (by assumption)) ?_
                        refine cond_yes (by assumption) ?_
                        refine cond_yes (decide_eq_true (by assumption)) ?_
                        refine cond_yes (by assumption) ?_
                        exact ⟨(), ⟨by rw [hdom, hki, h15, decide_eq_true (show y.length < x.length by omega)]; rfl, trivial⟩, H2⟩
                      · refine cond_no (decide_eq_false (by assumption)) ?_
                        refine H2.load 0 rfl agg3 rfl ?_
                        refine cond_no (decide_eq_false (by assumption)) ?_
                        refine cond_yes (by assumption) ?_
                        refine cond_no (decide_eq_false (by assumption)) ?_
                        refine cond_yes (by assumption) ?_
                        exact ⟨(), ⟨by rw [hdom, hki, h15, decide_eq_false (show ¬ y.length < x.length by omega)]; exact congrArg Value.bool (decide_eq_decide.2 (by omega)), trivial⟩, H2⟩
                    · refine cond_no (by assumption) ?_
                      iterate 6 refine cond_no (by assumption) ?_
                      exact ⟨(), ⟨by rw [hdom, hki, h15]; rfl, trivial⟩, H2⟩
                  · have hki : (k != i) = false := by simp; omega
                    iterate 3 refine cond_no (bne_eq_false_iff_eq.2 (by omega)) ?_
                    iterate 8 refine cond_no rfl ?_
                    exact ⟨(), ⟨by rw [hdom, hki]; rfl, trivial⟩, H2⟩
                · rintro ⟨⟩ u w9 H1
                  replace H2 : Hp _ _ _ _ _ := H1
                  clear H1
                  refine cond_split (fun hd => ?_) (fun hd => ⟨(), trivial, hd, H2⟩)
                  rw [rows_found hno (by omega) (by omega) hd]
                  refine H2.loadAll 2 rfl agg91 size91 ?_
                  refine mkFunc ?_
                  refine call_fn (c172 cols R _ S 176 _ (fun x _ => (x : Int) != (i : Int)) _ hl (H2.ro 0 rfl) (H2.rlt _ (.head _)) (fun j ks B c u hks hsame hsl => c176 _ _ i g7 u ((H2.same hsame).get 0 rfl))) ?_
                  rintro _ w10 ⟨v', rfl, hn⟩
                  rw [keepI_erase i 0 R (Nat.zero_le _), Nat.sub_zero] at hn
                  obtain ⟨S', H3, hS'⟩ := H2.addM (.head _) hn
                  obtain ⟨A', c', hv'⟩ := (H3.ro 0 rfl).form
                  subst hv'
                  refine H3.storeAll 1 rfl size91 rfl (fun v hv => mc_one v hv) ?_
                  clear H3
                  intro w11 H3
                  refine H3.loadAll 1 rfl agg91 size91 ?_
                  refine ⟨rfl, ?_⟩
                  exact ⟨_, rfl, H3.outM hS'⟩
            · rintro ⟨⟩ u w9 ⟨hdk, H1⟩
              exact ⟨k + 1, by show R.length - (k + 1) < R.length - k; omega, ⟨up (by omega), trivial⟩, ⟨by show k + 1 ≤ R.length; omega, lt_snoc hnk hdk⟩, H1⟩
          · have : k = R.length := by omega
            subst this
            exact ⟨(), trivial, hnk, H2.forget⟩
        · rintro ⟨⟩ u w5 ⟨hdk, H1⟩
          exact ⟨i + 1, by show R.length - (i + 1) < R.length - i; omega, ⟨up (by omega), trivial⟩, ⟨by show i + 1 ≤ R.length; omega, lt_snoc hno (any_no hdk)⟩, H1⟩
      · have : i = R.length := by omega
        subst this
        exact ⟨(), trivial, hno, H⟩
    · rintro ⟨⟩ u w4 ⟨hno, H1⟩
      replace H : Hp _ _ _ _ _ := H1
      clear H1
      rw [rows_none hno]
      refine H.loadAll 1 rfl agg91 size91 ?_
      refine H.storeAll 0 rfl size91 rfl (fun v hv => mc_one v hv) ?_
      clear H
      intro w5 H
      refine H.loadAll 0 rfl agg91 size91 ?_
      refine ⟨rfl, ?_⟩
      exact ⟨_, rfl, H.outM fun g hg => .inr hg⟩
end Go.Proofs.Ytjebpngdinbckaa
end

section
/- Coverings: where, less; Take, Rows and Columns of the reference. -/
namespace Go.Proofs.Ytjebpngdinbckaa
open Go.Dk
attribute [local irreducible] IntKind.wrap

def whereTo (R : Mat) (c : Int) (i : Nat) : List Int := ((List.range i).filter fun i => decide (c ∈ R.getD i [])).map (fun i : Nat => (i : Int))
theorem where_end (R : Mat) (c : Int) : whereTo R c R.length = whereM R c := rfl
theorem where_succ {R : Mat} {c : Int} {i : Nat} {x : List Int} (hx : R[i]? = some x) : whereTo R c (i + 1) = whereTo R c i ++ (if c ∈ x then [(i : Int)] else []) := by
  unfold whereTo
  rw [List.range_succ, List.filter_append, List.map_append]
  congr 1
  have : R.getD i [] = x := by rw [List.getD_eq_getElem?_getD, hx]; rfl
  by_cases h : c ∈ x
  · simp only [List.filter_cons, this, h, decide_true, if_true, List.filter_nil, List.map_cons, List.map_nil]
  · simp only [List.filter_cons, this, h, decide_false, Bool.false_eq_true, if_false, List.filter_nil, List.map_nil]
theorem whereTo_le (R : Mat) (c : Int) (i : Nat) : (whereTo R c i).length ≤ i := by
  have := List.length_filter_le (fun i => decide (c ∈ R.getD i [])) (List.range i)
  simpa [whereTo] using this
theorem ent211 : enters Try.prog 211 = true := by kernel_rfl
theorem c211 (R : Mat) (c : Int) (v1 : Value) (w : World) (hl : R.length ≤ 1000000000) (hlr : ∀ r ∈ R, r.length ≤ 1000000000) (h1 : MatAt w v1 R) :
    Fun Try.prog 211 [v1, .int .i64 c] w fun v w' => ∃ B d, v = .slice B (whereM R c).length d ∧ NewR w w' (own 3 1 (.slice B (whereM R c).length d) (whereM R c).length (intsI (whereM R c))) := by
  refine fun_of_W (N := 24) Try.func211 ent211 rfl rfl rfl (by simp) ?_
  have H := (Hp.start0 w).ownNil 3 1
  obtain ⟨A, ca, va, rfl, ha, hra⟩ := h1.openM
  refine cut_rule (γ := Unit) _ rfl (fun _ => []) (fun _ w' => Hp.cl H w') ⟨(), trivial, H⟩ ?_
  rintro ⟨⟩ u w0 H1
  replace H : Hp _ _ _ _ _ := H1
  clear H1
  refine cut_rule (γ := Unit) _ rfl (fun _ => [(5, .slice none 0 0)]) (fun _ w' => Hp.cl H w') ⟨(), ⟨rfl, trivial⟩, H⟩ ?_
  rintro ⟨⟩ u w0 H1
  replace H : Hp _ _ _ _ _ := H1
  clear H1
  refine cut_rule (γ := Option Addr × Nat) _ rfl (fun (B, d) => [(5, .slice B (whereM R c).length d)]) (fun (B, d) w' => Hp w (fun _ => False) w' [own 3 1 (.slice B (whereM R c).length d) (whereM R c).length (intsI (whereM R c))] []) ?_ ?_
  · refine loop_rule (γ := Nat × Option Addr × Nat) _ rfl (fun (i, B, d) => [(6, .int .i64 (i : Int)), (5, .slice B (whereTo R c i).length d)])
      (fun (i, B, d) w' => i ≤ R.length ∧ Hp w (fun _ => False) w' [own 3 1 (.slice B (whereTo R c i).length d) (whereTo R c i).length (intsI (whereTo R c i))] []) (fun (i, _) => R.length - i) (0, none, 0) ⟨rfl, rfl, trivial⟩ ⟨Nat.zero_le _, H⟩ ?_
    clear H
    rintro ⟨i, B, d⟩ u w1 ⟨hi, H⟩
    replace H : Hp _ _ _ _ _ := H
    refine len_sl Try.underlying89 ?_
    refine cond_dec (fun h7 => ?_) (fun h7 => ?_)
    · obtain ⟨x, hx⟩ : ∃ x, R[i]? = some x := ⟨_, List.getElem?_eq_getElem (by omega)⟩
      obtain ⟨g0, o0, rfl⟩ := ha.A (by omega)
      obtain ⟨Bx, cx, hget, hsx⟩ := hra i x hx
      have hxl := hlr x (List.mem_of_getElem? hx)
      have hsn := where_succ (c := c) hx
      have hwl := whereTo_le R c i
      refine idxAddr_sl Try.underlying89 (s := 1) size32 i rfl (by omega) (o' := o0 + i) (by omega) ?_
      refine H.loadSl (i := i) ha aggrow _ rfl hget ?_
      refine call_fn (c127 x Bx cx c _ hxl (hsx.same H.keeps)) ?_
      rintro _ w2 ⟨rfl, hk⟩
      replace H := H.same hk
      clear hk
      refine cond_dec (fun hc => ?_) (fun hc => ?_)
      · rw [if_pos hc] at hsn
        refine H.buildOne T32 rfl ?_
        clear H
        intro g3 w3 H
        refine H.appendOne 0 T32 rfl rfl (by omega) (by omega) ?_
        clear H
        intro A4 k4 w4 H
        have e1 : (whereTo R c (i + 1)).length = (whereTo R c i).length + 1 := by rw [hsn]; simp
        have e2 : intsI (whereTo R c (i + 1)) = intsI (whereTo R c i) ++ [.int .i64 (i : Int)] := by rw [hsn]; simp [intsI]
        exact ⟨(i + 1, A4, k4), by show R.length - (i + 1) < R.length - i; omega, ⟨up (by omega), by rw [e1]; rfl, trivial⟩, by show i + 1 ≤ R.length; omega, by rw [e1, e2]; exact H⟩
      · rw [if_neg hc, List.append_nil] at hsn
        exact ⟨(i + 1, B, d), by show R.length - (i + 1) < R.length - i; omega, ⟨up (by omega), by rw [hsn]; rfl, trivial⟩, by show i + 1 ≤ R.length; omega, by rw [hsn]; exact H⟩
    · have : i = R.length := by omega
      subst this
      exact ⟨(B, d), ⟨rfl, trivial⟩, H⟩
  · clear H
    rintro ⟨B, d⟩ u w1 H
    replace H : Hp _ _ _ _ _ := H
    exact ⟨B, d, rfl, H.out⟩
def lessB (cols : Nat) (R : Mat) (c : Int) : Bool := !(whereM R c).isEmpty && (List.range cols).any fun d => domC R c (d : Int)
theorem any_at {n : Nat} {p : Nat → Bool} {d : Nat} (h : d < n) (hp : p d = true) : (List.range n).any p = true := List.any_eq_true.2 ⟨d, List.mem_range.2 h, hp⟩
theorem where_len (R : Mat) (c : Int) : (whereM R c).length ≤ R.length := whereTo_le R c R.length
theorem less_yes {cols : Nat} {R : Mat} {c : Int} {d : Nat} (h : 0 < (whereM R c).length) (hd : d < cols) (hp : domC R c (d : Int) = true) : lessB cols R c = true := by
  unfold lessB
  rw [any_at hd hp, Bool.and_true]
  cases hw : whereM R c with
  | nil => rw [hw] at h; simp at h
  | cons x l => rfl
theorem less_nil {cols : Nat} {R : Mat} {c : Int} (h : (whereM R c).length = 0) : lessB cols R c = false := by
  unfold lessB
  rw [List.length_eq_zero_iff.1 h]; rfl
theorem less_no {cols : Nat} {R : Mat} {c : Int} (h : ∀ d, d < cols → domC R c ((d : Nat) : Int) = false) : lessB cols R c = false := by
  unfold lessB
  rw [any_no h, Bool.and_false]
theorem domC_def (R : Mat) (c d : Int) : domC R c d = ((d != c) && withinB (whereM R c) (whereM R d) && (decide ((whereM R c).length < (whereM R d).length) || decide (d < c))) := rfl
theorem ent178 : enters Try.prog 178 = true := by kernel_rfl
theorem c178 (R : Mat) (cols : Nat) (c : Int) (v1 : Value) (w : World) (hl : R.length ≤ 1000000000) (hcl : cols ≤ 1000000000) (hlr : ∀ r ∈ R, r.length ≤ 1000000000) (h1 : MatAt w v1 R) :
    Fun Try.prog 178 [v1, .int .i64 (cols : Int), .int .i64 c] w fun v w' => v = .bool (lessB cols R c) ∧ Same w w' := by
  refine fun_of_W (N := 46) Try.func178 ent178 rfl rfl rfl (by simp) ?_
  have H := Hp.start0 w
  obtain ⟨A, ca, va, rfl, ha, hra⟩ := h1.openM
  have hwl := where_len R
  refine cut_rule (γ := Unit) _ rfl (fun _ => []) (fun _ w' => Hp.cl H w') ⟨(), trivial, H⟩ ?_
  rintro ⟨⟩ u w0 H1
  replace H : Hp _ _ _ _ _ := H1
  clear H1
  refine cut_rule (γ := Option Addr × Nat) _ rfl (fun (B, d) => [(7, .slice B (whereM R c).length d)]) (fun (B, d) w' => Hp w (fun _ => False) w' [own 3 1 (.slice B (whereM R c).length d) (whereM R c).length (intsI (whereM R c))] []) ?_ ?_
  · refine call_fn (c211 R c _ _ hl hlr (h1.same H.keeps)) ?_
    rintro _ w1 ⟨B, d, rfl, hn⟩
    exact ⟨(B, d), ⟨rfl, trivial⟩, H.addNew hn⟩
  clear H
  rintro ⟨B, d0⟩ u w1 H
  replace H : Hp _ _ _ _ _ := H
  refine cut_rule (γ := Unit) _ rfl (fun _ => []) (fun _ w' => lessB cols R c = false ∧ Hp.cl H w') ?_ ?_
  · refine loop_rule (γ := Nat) _ rfl (fun d => [(8, .int .i64 (d : Int))]) (fun d w' => (d ≤ cols ∧ ∀ d', d' < d → domC R c (d' : Int) = false) ∧ Hp.cl H w') (fun d => cols - d) 0 ⟨rfl, trivial⟩ ⟨⟨Nat.zero_le _, fun d' h => by omega⟩, H⟩ ?_
    rintro d u w2 ⟨⟨hd, hno⟩, H1⟩
    replace H : Hp _ _ _ _ _ := H1
    clear H1
    refine cond_dec (fun h7 => ?_) (fun h7 => ?_)
    · refine cond_yes (decide_eq_true (by assumption)) ?_
      refine len_sl Try.underlying32 ?_
      iterate 2 refine cond_yes (decide_eq_true (by assumption)) ?_
      refine cond_dec (fun h8 => ?_) (fun h8 => ?_)
      · refine cut_rule (γ := Unit) _ rfl (fun _ => []) (fun _ w' => domC R c (d : Int) = false ∧ Hp.cl H w') ?_ ?_
        · refine cut_rule (γ := Option Addr × Nat) _ rfl (fun (B3, d3) => [(9, .slice B3 (whereM R (d : Int)).length d3)]) (fun (B3, d3) w' => Hp w (fun _ => False) w' [own 3 1 (.slice B3 (whereM R (d : Int)).length d3) (whereM R (d : Int)).length (intsI (whereM R (d : Int))), own 3 1 (.slice B (whereM R c).length d0) (whereM R c).length (intsI (whereM R c))] []) ?_ ?_
          · refine call_fn (c211 R (d : Int) _ _ hl hlr (h1.same H.keeps)) ?_
            rintro _ w3 ⟨B3, d3, rfl, hn⟩
            exact ⟨(B3, d3), ⟨rfl, trivial⟩, H.addNew hn⟩
          · rintro ⟨B3, d3⟩ u w3 H2
            replace H2 : Hp _ _ _ _ _ := H2
            refine cut_rule (γ := Unit) _ rfl (fun _ => [(45, .bool (domC R c (d : Int)))]) (fun _ w' => Hp.cl H2 w') ?_ ?_
            · refine cond_bne (fun h4 => ?_) (fun h4 => ?_)
              · refine cond_yes (bne_iff_ne.2 (by omega)) ?_
                refine cond_yes (bne_iff_ne.2 (by omega)) ?_
                refine call_fn (c177 _ _ _ _ _ _ _ (Nat.le_trans (hwl _) hl) (Nat.le_trans (hwl _) hl) (own_Sl (H2.get 1 rfl)) (own_Sl (H2.get 0 rfl))) ?_ 
                rintro _ w9 ⟨rfl, hk9⟩ 
                replace H2 := H2.same hk9 
                clear hk9
                refine cond_yes (bne_iff_ne.2 (by omega)) ?_
                refine cond_split (fun h11 => ?_) (fun h11 => ?_)
                · refine cond_yes (by assumption) ?_
                  refine len_sl Try.underlying32 ?_
                  iterate 2 refine cond_yes (by assumption) ?_
                  refine len_sl Try.underlying32 ?_
                  iterate 2 refine cond_yes (by assumption) ?_
                  refine cond_dec (fun h19 => ?_) (fun h19 => ?_)
                  · refine cond_yes (decide_eq_true (by assumption)) ?_
                    refine cond_yes (decide_eq_true (by assumption)) ?_
                    refine cond_yes (by assumption) ?_
                    refine cond_yes (decide_eq_true (by assumption)) ?_
                    refine cond_yes (by assumption) ?_
                    exact ⟨(), ⟨by rw [domC_def, bne_iff_ne.2 h4, h11, decide_eq_true (show (whereM R c).length < (whereM R (d : Int)).length by omega)]; rfl, trivial⟩, H2⟩
                  · refine cond_no (decide_eq_false (by assumption)) ?_
                    refine cond_no (decide_eq_false (by assumption)) ?_
                    refine cond_yes (by assumption) ?_
                    refine cond_no (decide_eq_false (by assumption)) ?_
                    refine cond_yes (by assumption) ?_
                    exact ⟨(), ⟨by rw [domC_def, bne_iff_ne.2 h4, h11, decide_eq_false (show ¬ (whereM R c).length < (whereM R (d : Int)).length by omega)]; rfl, trivial⟩, H2⟩
                · refine cond_no (by assumption) ?_
                  iterate 6 refine cond_no (by assumption) ?_
                  exact ⟨(), ⟨by rw [domC_def, bne_iff_ne.2 h4, h11]; rfl, trivial⟩, H2⟩
              · refine cond_no (bne_eq_false_iff_eq.2 (by omega)) ?_
                iterate 2 refine cond_no (bne_eq_false_iff_eq.2 (by omega)) ?_
                iterate 8 refine cond_no rfl ?_
                exact ⟨(), ⟨by rw [domC_def, bne_eq_false_iff_eq.2 h4]; rfl, trivial⟩, H2⟩
            · rintro ⟨⟩ u w9 H1
              replace H2 : Hp _ _ _ _ _ := H1
              refine cond_split (fun hd' => ?_) (fun hd' => ?_)
              · exact ⟨by rw [less_yes (by omega) (by omega) hd']; rfl, H2.keeps⟩
              · exact ⟨(), trivial, hd', H2.forget⟩
        · rintro ⟨⟩ u w9 ⟨hd', H1⟩
          exact ⟨d + 1, by show cols - (d + 1) < cols - d; omega, ⟨up (by omega), trivial⟩, ⟨by show d + 1 ≤ cols; omega, lt_snoc hno hd'⟩, H1⟩
      · exact ⟨(), trivial, less_nil (by omega), H⟩
    · iterate 3 refine cond_no (decide_eq_false (by assumption)) ?_
      refine cond_no rfl ?_
      exact ⟨(), trivial, less_no fun d' hd' => hno d' (by omega), H⟩
  · rintro ⟨⟩ u w2 ⟨hno, H1⟩
    exact ⟨by rw [hno]; rfl, H1.keeps⟩
end Go.Proofs.Ytjebpngdinbckaa
end

section
/- Coverings: Take and Columns of the reference. -/
namespace Go.Proofs.Ytjebpngdinbckaa
open Go.Dk
attribute [local irreducible] IntKind.wrap

/-- Headers of rows that lie in S. -/
def hsOk (S : Nat → Prop) (w : World) (hs : List Value) (Q : Mat) : Prop := hs.length = Q.length ∧ ∀ (j : Nat) (u : Value) (ks : List Int), hs[j]? = some u → Q[j]? = some ks → rowV S w u ks
theorem hsOk.nil (S : Nat → Prop) (w : World) : hsOk S w [] [] := ⟨rfl, fun j u ks h => by simp at h⟩
theorem hsOk.snoc {S : Nat → Prop} {w : World} {hs : List Value} {Q : Mat} (h : hsOk S w hs Q) {u : Value} {ks : List Int} (hu : rowV S w u ks) : hsOk S w (hs ++ [u]) (Q ++ [ks]) := by
  obtain ⟨h1, h2⟩ := h
  refine ⟨by simp [h1], fun j v rs hj hrs => ?_⟩
  by_cases hjl : j < hs.length
  · rw [List.getElem?_append_left hjl] at hj
    rw [List.getElem?_append_left (by omega)] at hrs
    exact h2 j v rs hj hrs
  · rw [List.getElem?_append_right (by omega)] at hj hrs
    have hj0 : j - hs.length = 0 := by have := (List.getElem?_eq_some_iff.1 hj).1; simp at this; omega
    rw [← h1, hj0] at hrs
    rw [hj0] at hj
    simp at hj hrs
    subst hj; subst hrs
    exact hu
theorem rowV.mono {S S' : Nat → Prop} {w : World} {u : Value} {ks : List Int} (h : rowV S w u ks) (hS : ∀ g, S g → S' g) : rowV S' w u ks := by
  obtain ⟨B, c, hv, hs⟩ := h
  exact ⟨B, c, hv, sl.mono hs hS⟩
theorem rowV.stable {S : Nat → Prop} {w w' : World} {u : Value} {ks : List Int} (h : rowV S w u ks) (hS : ∀ g, S g → w'.heap[g]? = w.heap[g]?) : rowV S w' u ks := by
  obtain ⟨B, c, hv, hs⟩ := h
  exact ⟨B, c, hv, (sl _ _ _ _ _).stable _ _ hS hs⟩
theorem hsOk.stable {S : Nat → Prop} {w w' : World} {hs : List Value} {Q : Mat} (h : hsOk S w hs Q) (hS : ∀ g, S g → w'.heap[g]? = w.heap[g]?) : hsOk S w' hs Q :=
  ⟨h.1, fun j u ks hj hks => (h.2 j u ks hj hks).stable hS⟩
theorem hsOk.mono {S S' : Nat → Prop} {w : World} {hs : List Value} {Q : Mat} (h : hsOk S w hs Q) (hS : ∀ g, S g → S' g) : hsOk S' w hs Q :=
  ⟨h.1, fun j u ks hj hks => (h.2 j u ks hj hks).mono hS⟩
/-- Rows as a part that is read. -/
def rowsR (S : Nat → Prop) (hs : List Value) (Q : Mat) : Res := ⟨S, fun w => hsOk S w hs Q, fun _ _ h hok => hok.stable h⟩
/-- Own headers of rows: what is handed back. -/
theorem newM_of {w w' : World} {L M : List Res} {S S' : Nat → Prop} {B : Option Addr} {d n : Nat} {hs : List Value} {Q : Mat} (H : Hp w (fun _ => False) w' L M) (i : Nat) (hn : L[i]? = some (own 32 1 (.slice B n d) n hs))
    (hq : hsOk S' w' hs Q) (hS : ∀ g, S' g → g < w'.heap.size ∧ (w.heap.size ≤ g ∨ S g)) : NewM S w w' (.slice B n d) Q := by
  have hown := H.get i hn
  have hm := List.mem_of_getElem? hn
  have hlen : hs.length = n := by have := hown.1; omega
  have hnQ : n = Q.length := by rw [← hlen]; exact hq.1
  subst hnQ
  refine ⟨H.keeps, fun g => S' g ∨ (w.heap.size ≤ g ∧ g < w'.heap.size), ⟨B, d, hs, rfl, ?_, fun i u ks hu hks => ?_⟩, ?_⟩
  · exact sl.mono (own_sl hown) fun g hg => .inr ⟨(H.new _ hm g hg).resolve_right id, H.lt _ hm g hg⟩
  · obtain ⟨B', c', hv', hs'⟩ := hq.2 i u ks hu hks
    exact ⟨B', c', hv', sl.mono hs' fun g hg => .inl hg⟩
  · rintro g (hg | ⟨h1, h2⟩)
    · exact hS g hg
    · exact ⟨h2, .inl h1⟩
theorem newM_same {w w' : World} {S : Nat → Prop} {v : Value} {R : Mat} (hk : Same w w') (h : matOk S v R w) (hS : ∀ g, S g → g < w.heap.size) : NewM S w w' v R :=
  ⟨hk, S, (MatR S v R).stable _ _ (fun g hg => hk.old g (hS g hg) id) h, fun g hg => ⟨Nat.lt_of_lt_of_le (hS g hg) hk.size, .inr hg⟩⟩
/-- Headers that are those of rows at the call's begin. -/
theorem newM_old {w w' : World} {L M : List Res} {S : Nat → Prop} {B : Option Addr} {d n : Nat} {hs : List Value} {Q : Mat} (H : Hp w (fun _ => False) w' L M) (i : Nat) (hn : L[i]? = some (own 32 1 (.slice B n d) n hs))
    (hq : hsOk S w hs Q) (hS : ∀ g, S g → g < w.heap.size) : NewM S w w' (.slice B n d) Q :=
  newM_of H i hn (hq.stable fun g hg => H.keeps.old g (hS g hg) id) fun g hg => ⟨Nat.lt_of_lt_of_le (hS g hg) H.keeps.size, .inr hg⟩
/-- An own row is laid to the rows. -/
theorem _root_.Go.Dk.Hp.addRow {w0 w : World} {L M : List Res} {S : Nat → Prop} {hs : List Value} {Q : Mat} {v : Value} {ks : List Int} (H : Hp w0 (fun _ => False) w (own 3 1 v ks.length (intsI ks) :: L) (rowsR S hs Q :: M)) (hS : ∀ g, S g → w0.heap.size ≤ g) :
    ∃ S', Hp w0 (fun _ => False) w L (rowsR S' (hs ++ [v]) (Q ++ [ks]) :: M) ∧ ∀ g, S' g → w0.heap.size ≤ g := by
  have hown := H.get 0 rfl
  have hrow := H.ro 0 rfl
  have hnew := H.new _ (.head _)
  have H2 := H.freeze
  refine ⟨fun g => S g ∨ v.ownBlock = some g, (H2.addRO (Keeps.refl _ _) (rowsR (fun g => S g ∨ v.ownBlock = some g) (hs ++ [v]) (Q ++ [ks])) ?_ fun g hg => ⟨?_, .inr ?_⟩).weakenRO ?_, ?_⟩
  · obtain ⟨A, c, rfl, _⟩ := own_form hown
    exact hsOk.snoc (hrow.mono fun g hg => .inl hg) ⟨A, c, rfl, sl.mono (own_sl hown) fun g hg => .inr hg⟩
  · rcases hg with hg | hg
    · exact H2.rlt _ (.tail _ (.head _)) g hg
    · exact H2.rlt _ (.head _) g hg
  · rcases hg with hg | hg
    · exact ⟨_, .tail _ (.head _), hg⟩
    · exact ⟨_, .head _, hg⟩
  · intro r hr
    rcases List.mem_cons.1 hr with rfl | hr
    · exact .head _
    · exact .tail _ (.tail _ (.tail _ hr))
  · rintro g (hg | hg)
    · exact hS g hg
    · exact (hnew g hg).resolve_right id
theorem _root_.Go.Dk.Hp.noRows {w0 w : World} {F : Nat → Prop} {L M : List Res} (H : Hp w0 F w L M) : Hp w0 F w L (rowsR (fun _ => False) [] [] :: M) :=
  H.addRO (Keeps.refl _ _) _ (hsOk.nil _ _) fun g hg => hg.elim
theorem filter_snoc {R : Mat} {i : Nat} {x : List Int} (q : List Int → Bool) (hx : R[i]? = some x) : (R.take (i + 1)).filter q = (R.take i).filter q ++ (if q x then [x] else []) := by
  rw [List.take_add_one, hx, List.filter_append]
  cases h : q x <;> simp [h]
theorem ent86 : enters Try.prog 86 = true := by kernel_rfl
theorem c86 (R : Mat) (v1 : Value) (S : Nat → Prop) (w : World) (hl : R.length ≤ 1000000000) (hlr : ∀ r ∈ R, r.length ≤ 1000000000) (h1 : matOk S v1 R w) (hS : ∀ g, S g → g < w.heap.size) :
    Fun Try.prog 86 [v1] w fun v w' => ∃ v', v = .tuple #[v', .int .i64 (((takeS R).map (·.2)).getD 0), .bool (takeS R).isSome] ∧ NewM S w w' v' (((takeS R).map (·.1)).getD R) := by
  refine fun_of_W (N := 53) Try.func86 ent86 rfl rfl rfl (by simp) ?_
  have H := Hp.start0 w
  have h1' : MatAt w v1 R := MatR.mono h1 hS
  have h1o := h1
  obtain ⟨A, ca, va, rfl, ha0, hr0⟩ := h1o
  have ha : Sl w (.slice A R.length ca) 1 R.length va := sl.mono ha0 hS
  have hvl : va.length = R.length := by have := ha.1; omega
  have hrow : ∀ (i : Nat) (x : List Int), R[i]? = some x → ∃ Bx cx, va[i]? = some (.slice Bx x.length cx) ∧ rowV S w (.slice Bx x.length cx) x ∧ Sl w (.slice Bx x.length cx) 1 x.length (intsI x) := fun i x hx => by
    have hil := (List.getElem?_eq_some_iff.1 hx).1
    have hu : va[i]? = some (va[i]'(by omega)) := List.getElem?_eq_getElem (by omega)
    obtain ⟨Bx, cx, hux, hsx0⟩ := hr0 i _ x hu hx
    rw [hux] at hu
    exact ⟨Bx, cx, hu, ⟨Bx, cx, rfl, hsx0⟩, sl.mono hsx0 hS⟩
  refine cut_rule (γ := Unit) _ rfl (fun _ => []) (fun _ w' => Hp.cl H w') ⟨(), trivial, H⟩ ?_
  rintro ⟨⟩ u w0 H1
  replace H : Hp _ _ _ _ _ := H1
  clear H1
  refine cut_rule (γ := Unit) _ rfl (fun _ => []) (fun _ w' => (∀ r ∈ R, (r.length == 1) = false) ∧ Hp.cl H w') ?_ ?_
  · refine loop_rule (γ := Nat) _ rfl (fun i => [(5, .int .i64 (i : Int))]) (fun i w' => (i ≤ R.length ∧ ∀ r ∈ R.take i, (r.length == 1) = false) ∧ Hp.cl H w') (fun i => R.length - i) 0 ⟨rfl, trivial⟩ ⟨⟨Nat.zero_le _, by simp⟩, H⟩ ?_
    rintro i u w1 ⟨⟨hi, hno⟩, H1⟩
    replace H : Hp _ _ _ _ _ := H1
    clear H1
    refine len_sl Try.underlying89 ?_
    refine cond_dec (fun h7 => ?_) (fun h7 => ?_)
    · obtain ⟨x, hx⟩ : ∃ x, R[i]? = some x := ⟨_, List.getElem?_eq_getElem (by omega)⟩
      obtain ⟨g0, o0, rfl⟩ := ha.A (by omega)
      obtain ⟨Bx, cx, hget, hrx, hsx⟩ := hrow i x hx
      refine idxAddr_sl Try.underlying89 (s := 1) size32 i rfl (by omega) (o' := o0 + i) (by omega) ?_
      refine H.loadSl (i := i) ha aggrow _ rfl hget ?_
      refine len_sl Try.underlying32 ?_
      refine cond_beq (fun h8 => ?_) (fun h8 => ?_)
      · have hx1 : x.length = 1 := by omega
        obtain ⟨k, rfl⟩ : ∃ k, x = [k] := List.length_eq_one_iff.1 hx1
        have hfd : R.find? (fun r => r.length == 1) = some [k] := find_at hno hx (by rfl)
        have htake : takeS R = some (R.filter fun q => !decide (k ∈ q), k) := by unfold takeS; rw [hfd]; rfl
        rw [htake]
        obtain ⟨gx, ox, rfl⟩ := hsx.A (by simp)
        refine cut_rule (γ := Unit) _ rfl (fun _ => [(6, .slice none 0 0)]) (fun _ w' => Hp.cl H w') ⟨(), ⟨rfl, trivial⟩, H⟩ ?_
        rintro ⟨⟩ u w2 H1
        replace H : Hp _ _ _ _ _ := H1
        clear H1
        have H2 := H.ownNil 32 1
        refine cut_rule (γ := Option Addr × Nat × List Value) _ rfl (fun (B, d, hs) => [(6, .slice B hs.length d)]) (fun (B, d, hs) w' => hsOk S w hs (R.filter fun q => !decide (k ∈ q)) ∧ Hp w (fun _ => False) w' [own 32 1 (.slice B hs.length d) hs.length hs] []) ?_ ?_
        · refine loop_rule (γ := Nat × Option Addr × Nat × List Value) _ rfl (fun (j, B, d, hs) => [(7, .int .i64 (j : Int)), (6, .slice B hs.length d)])
            (fun (j, B, d, hs) w' => (j ≤ R.length ∧ hsOk S w hs ((R.take j).filter fun q => !decide (k ∈ q))) ∧ Hp w (fun _ => False) w' [own 32 1 (.slice B hs.length d) hs.length hs] []) (fun (j, _) => R.length - j) (0, none, 0, []) ⟨rfl, rfl, trivial⟩ ⟨⟨Nat.zero_le _, hsOk.nil _ _⟩, H2⟩ ?_
          clear H2 H
          rintro ⟨j, B, d, hs⟩ u w3 ⟨⟨hj, hh⟩, H⟩
          replace H : Hp _ _ _ _ _ := H
          refine len_sl Try.underlying89 ?_
          refine cond_dec (fun h9 => ?_) (fun h9 => ?_)
          · obtain ⟨y, hy⟩ : ∃ y, R[j]? = some y := ⟨_, List.getElem?_eq_getElem (by omega)⟩
            obtain ⟨By, cy, hgety, hry, hsy⟩ := hrow j y hy
            have hyl := hlr y (List.mem_of_getElem? hy)
            have hsn := filter_snoc (fun q => !decide (k ∈ q)) hy
            have hle : hs.length ≤ 1000000000 := by
              have := List.length_filter_le (fun q => !decide (k ∈ q)) (R.take j)
              rw [List.length_take] at this
              have := hh.1
              omega
            refine H.draw fol (by kernel_rfl) ?_
            clear H
            intro w4 H
            refine quiet _ (fun w H => idxAddr_sl Try.underlying89 (s := 1) size32 j rfl (by omega) (o' := o0 + j) (by omega) ⟨rfl, rfl⟩) ?_
            refine quiet _ (fun w H => H.loadSl (i := j) ha aggrow _ rfl hgety ⟨rfl, rfl⟩) ?_
            refine quiet _ (fun w H => idxAddr_sl Try.underlying89 (s := 1) size32 i rfl (by omega) (o' := o0 + i) (by omega) ⟨rfl, rfl⟩) ?_
            refine quiet _ (fun w H => H.loadSl (i := i) ha aggrow _ rfl hget ⟨rfl, rfl⟩) ?_
            refine quiet _ (fun w H => idxAddr_sl Try.underlying32 (s := 1) size3 0 rfl (by simp) (o' := ox) (by omega) ⟨rfl, rfl⟩) ?_
            refine quiet _ (fun w H => H.loadSl (i := 0) hsx agg3 _ rfl rfl ⟨rfl, rfl⟩) ?_
            refine call_fn (c127 y By cy k _ hyl (hsy.same H.keeps)) ?_
            rintro _ w5 ⟨rfl, hk⟩
            replace H := H.same hk
            clear hk
            refine ⟨.inl H, ?_⟩
            refine cond_split (fun hb => ?_) (fun hb => ?_)
            · rw [if_pos hb] at hsn
              refine idxAddr_sl Try.underlying89 (s := 1) size32 j rfl (by omega) (o' := o0 + j) (by omega) ?_
              refine H.loadSl (i := j) ha aggrow _ rfl hgety ?_
              refine H.buildOne T89 rfl ?_
              clear H
              intro g5 w6 H
              refine H.appendOne 0 T89 rfl rfl (by omega) (by omega) ?_
              clear H
              intro B2 d2 w7 H
              have hli : (hs ++ [Value.slice By y.length cy]).length = hs.length + 1 := by simp
              exact ⟨(j + 1, B2, d2, hs ++ [Value.slice By y.length cy]), by show R.length - (j + 1) < R.length - j; omega, ⟨up (by omega), by rw [hli]; rfl, trivial⟩, ⟨by show j + 1 ≤ R.length; omega, by rw [hsn]; exact hh.snoc hry⟩, by rw [hli]; exact H⟩
            · rw [if_neg (by rw [hb]; decide), List.append_nil] at hsn
              exact ⟨(j + 1, B, d, hs), by show R.length - (j + 1) < R.length - j; omega, ⟨up (by omega), rfl, trivial⟩, ⟨by show j + 1 ≤ R.length; omega, by rw [hsn]; exact hh⟩, H⟩
          · have : j = R.length := by omega
            subst this
            rw [List.take_length] at hh
            exact ⟨(B, d, hs), ⟨rfl, trivial⟩, hh, H⟩
        · clear H2 H
          rintro ⟨B, d, hs⟩ u w3 ⟨hh, H⟩
          replace H : Hp _ _ _ _ _ := H
          refine H.draw fol (by kernel_rfl) ?_
          clear H
          intro w4 H
          refine quiet _ (fun w H => idxAddr_sl Try.underlying89 (s := 1) size32 i rfl (by omega) (o' := o0 + i) (by omega) ⟨rfl, rfl⟩) ?_
          refine quiet _ (fun w H => H.loadSl (i := i) ha aggrow _ rfl hget ⟨rfl, rfl⟩) ?_
          refine quiet _ (fun w H => idxAddr_sl Try.underlying32 (s := 1) size3 0 rfl (by simp) (o' := ox) (by omega) ⟨rfl, rfl⟩) ?_
          refine quiet _ (fun w H => H.loadSl (i := 0) hsx agg3 _ rfl rfl ⟨rfl, rfl⟩) ?_
          exact ⟨_, rfl, newM_old H 0 rfl hh hS⟩
      · exact ⟨i + 1, by show R.length - (i + 1) < R.length - i; omega, ⟨up (by omega), trivial⟩, ⟨by show i + 1 ≤ R.length; omega, no_snoc hno hx (by simp; omega)⟩, H⟩
    · have : i = R.length := by omega
      subst this
      rw [List.take_length] at hno
      exact ⟨(), trivial, hno, H⟩
  · rintro ⟨⟩ u w4 ⟨hno, H1⟩
    replace H : Hp _ _ _ _ _ := H1
    clear H1
    have htake : takeS R = none := by unfold takeS; rw [List.find?_eq_none.2 (fun y hy => by rw [hno y hy]; decide)]; rfl
    rw [htake]
    exact ⟨_, rfl, newM_same H.keeps h1 hS⟩
end Go.Proofs.Ytjebpngdinbckaa
end

section
/- Coverings: Rows of the reference. -/
namespace Go.Proofs.Ytjebpngdinbckaa
open Go.Dk
attribute [local irreducible] IntKind.wrap

theorem ref_dom {R : Mat} (hn : ∀ r ∈ R, r.Nodup) {i k : Nat} {x y : List Int} (hx : R[i]? = some x) (hy : R[k]? = some y) :
    ((withinB y x && !withinB x y) || ((decide (k < i) && withinB y x) && withinB x y)) = domR R i k := by
  rw [dom_at hx hy]
  by_cases hki : k = i
  · subst hki
    rw [hx] at hy
    injection hy with hy
    subst hy
    rw [decide_eq_false (Nat.lt_irrefl k)]
    simp
  · rw [dom_eq (hn y (List.mem_of_getElem? hy)) (hn x (List.mem_of_getElem? hx)), show (k != i) = true by simpa using hki, Bool.true_and]
theorem hsOk.erase {S : Nat → Prop} {w : World} {hs : List Value} {Q : Mat} (h : hsOk S w hs Q) (i : Nat) : hsOk S w (hs.eraseIdx i) (Q.eraseIdx i) := by
  obtain ⟨h1, h2⟩ := h
  refine ⟨by rw [List.length_eraseIdx, List.length_eraseIdx, h1], fun j u ks hj hks => ?_⟩
  rw [List.getElem?_eraseIdx] at hj hks
  split at hj
  · rename_i hlt
    rw [if_pos hlt] at hks
    exact h2 j u ks hj hks
  · rename_i hge
    rw [if_neg hge] at hks
    exact h2 (j + 1) u ks hj hks
theorem ent87 : enters Try.prog 87 = true := by kernel_rfl
theorem c87 (R : Mat) (v1 : Value) (S : Nat → Prop) (w : World) (hl : R.length ≤ 1000000000) (hlr : ∀ r ∈ R, r.length ≤ 1000000000) (hnd : ∀ r ∈ R, r.Nodup) (h1 : matOk S v1 R w) (hS : ∀ g, S g → g < w.heap.size) :
    Fun Try.prog 87 [v1] w fun v w' => ∃ v', v = .tuple #[v', .bool (rowsS R).isSome] ∧ NewM S w w' v' ((rowsS R).getD R) := by
  refine fun_of_W (N := 83) Try.func87 ent87 rfl rfl rfl (by simp) ?_
  have H := Hp.start0 w
  have h1' : MatAt w v1 R := MatR.mono h1 hS
  have h1o := h1
  obtain ⟨A, ca, va, rfl, ha0, hr0⟩ := h1o
  have ha : Sl w (.slice A R.length ca) 1 R.length va := sl.mono ha0 hS
  have hvl : va.length = R.length := by have := ha.1; omega
  have hva : hsOk S w va R := ⟨hvl, fun i u ks hu hks => hr0 i u ks hu hks⟩
  have hone : ∀ u ∈ va, u.oneCell' = true := fun u hu => by
    obtain ⟨i, hi, rfl⟩ := List.getElem_of_mem hu
    obtain ⟨B, c, hv, _⟩ := hr0 i _ (R[i]'(by omega)) (List.getElem?_eq_getElem hi) (List.getElem?_eq_getElem (by omega))
    rw [hv]; rfl
  have hrow : ∀ (i : Nat) (x : List Int), R[i]? = some x → ∃ Bx cx, va[i]? = some (.slice Bx x.length cx) ∧ rowV S w (.slice Bx x.length cx) x ∧ Sl w (.slice Bx x.length cx) 1 x.length (intsI x) := fun i x hx => by
    have hil := (List.getElem?_eq_some_iff.1 hx).1
    have hu : va[i]? = some (va[i]'(by omega)) := List.getElem?_eq_getElem (by omega)
    obtain ⟨Bx, cx, hux, hsx0⟩ := hr0 i _ x hu hx
    rw [hux] at hu
    exact ⟨Bx, cx, hu, ⟨Bx, cx, rfl, hsx0⟩, sl.mono hsx0 hS⟩
  refine cut_rule (γ := Unit) _ rfl (fun _ => []) (fun _ w' => Hp w (fun _ => False) w' [] []) ⟨(), trivial, H⟩ ?_
  rintro ⟨⟩ u w0 H1
  replace H : Hp _ _ _ _ _ := H1
  clear H1
  refine cut_rule (γ := Unit) _ rfl (fun _ => []) (fun _ w' => (∀ i, i < R.length → (List.range R.length).any (domR R i) = false) ∧ Hp w (fun _ => False) w' [] []) ?_ ?_
  · refine loop_rule (γ := Nat) _ rfl (fun i => [(4, .int .i64 (i : Int))]) (fun i w' => (i ≤ R.length ∧ ∀ i', i' < i → (List.range R.length).any (domR R i') = false) ∧ Hp w (fun _ => False) w' [] []) (fun i => R.length - i) 0 ⟨rfl, trivial⟩ ⟨⟨Nat.zero_le _, fun i' h => by omega⟩, H⟩ ?_
    rintro i u w1 ⟨⟨hi, hno⟩, H1⟩
    replace H : Hp _ _ _ _ _ := H1
    clear H1
    refine len_sl Try.underlying89 ?_
    refine cond_dec (fun h7 => ?_) (fun h7 => ?_)
    · obtain ⟨x, hx⟩ : ∃ x, R[i]? = some x := ⟨_, List.getElem?_eq_getElem (by omega)⟩
      obtain ⟨g0, o0, rfl⟩ := ha.A (by omega)
      obtain ⟨Bx, cx, hget, hrx, hsx⟩ := hrow i x hx
      have hxl := hlr x (List.mem_of_getElem? hx)
      refine cut_rule (γ := Unit) _ rfl (fun _ => []) (fun _ w' => (∀ k, k < R.length → domR R i k = false) ∧ Hp w (fun _ => False) w' [] []) ?_ ?_
      · refine loop_rule (γ := Nat) _ rfl (fun k => [(5, .int .i64 (k : Int))]) (fun k w' => (k ≤ R.length ∧ ∀ k', k' < k → domR R i k' = false) ∧ Hp w (fun _ => False) w' [] []) (fun k => R.length - k) 0 ⟨rfl, trivial⟩ ⟨⟨Nat.zero_le _, fun i' h => by omega⟩, H⟩ ?_
        rintro k u w2 ⟨⟨hkk, hnk⟩, H1⟩
        replace H : Hp _ _ _ _ _ := H1
        clear H1
        refine len_sl Try.underlying89 ?_
        refine cond_dec (fun h8 => ?_) (fun h8 => ?_)
        · obtain ⟨y, hy⟩ : ∃ y, R[k]? = some y := ⟨_, List.getElem?_eq_getElem (by omega)⟩
          obtain ⟨By, cy, hgety, hry, hsy⟩ := hrow k y hy
          have hyl := hlr y (List.mem_of_getElem? hy)
          have hdom := ref_dom hnd hx hy
          refine cut_rule (γ := Unit) _ rfl (fun _ => []) (fun _ w' => domR R i k = false ∧ Hp w (fun _ => False) w' [] []) ?_ ?_
          · refine cut_rule (γ := Unit) _ rfl (fun _ => [(6, .bool (withinB y x && !withinB x y))]) (fun _ w' => Hp w (fun _ => False) w' [] []) ?_ ?_
            · refine H.draw fol (by kernel_rfl) ?_
              clear H
              intro w3 H
              refine quiet _ (fun w H => idxAddr_sl Try.underlying89 (s := 1) size32 k rfl (by omega) (o' := o0 + k) (by omega) ⟨rfl, rfl⟩) ?_
              refine quiet _ (fun w H => H.loadSl (i := k) ha aggrow _ rfl hgety ⟨rfl, rfl⟩) ?_
              refine quiet _ (fun w H => idxAddr_sl Try.underlying89 (s := 1) size32 i rfl (by omega) (o' := o0 + i) (by omega) ⟨rfl, rfl⟩) ?_
              refine quiet _ (fun w H => H.loadSl (i := i) ha aggrow _ rfl hget ⟨rfl, rfl⟩) ?_
              refine call_fn (c177 y x By Bx cy cx _ hyl hxl (hsy.same H.keeps) (hsx.same H.keeps)) ?_ 
              rintro _ w10 ⟨rfl, hk10⟩ 
              replace H := H.same hk10 
              clear hk10 
              refine ⟨.inl H, ?_⟩
              refine cond_split (fun h11 => ?_) (fun h11 => ?_)
              · refine cond_yes (by assumption) ?_
                refine cond_yes (by assumption) ?_
                refine quiet _ (fun w H => idxAddr_sl Try.underlying89 (s := 1) size32 i rfl (by omega) (o' := o0 + i) (by omega) ⟨rfl, rfl⟩) ?_
                refine cond_yes (by assumption) ?_
                refine quiet _ (fun w H => H.loadSl (i := i) ha aggrow _ rfl hget ⟨rfl, rfl⟩) ?_
                iterate 3 refine cond_yes (by assumption) ?_
                refine quiet _ (fun w H => idxAddr_sl Try.underlying89 (s := 1) size32 k rfl (by omega) (o' := o0 + k) (by omega) ⟨rfl, rfl⟩) ?_
                refine cond_yes (by assumption) ?_
                refine quiet _ (fun w H => H.loadSl (i := k) ha aggrow _ rfl hgety ⟨rfl, rfl⟩) ?_
                refine cond_yes (by assumption) ?_
                refine call_fn (c177 x y Bx By cx cy _ hxl hyl (hsx.same H.keeps) (hsy.same H.keeps)) ?_ 
                rintro _ w24 ⟨rfl, hk24⟩ 
                replace H := H.same hk24 
                clear hk24 
                refine ⟨.inl H, ?_⟩
                iterate 2 refine cond_yes (by assumption) ?_
                exact ⟨(), ⟨by rw [h11]; rfl, trivial⟩, H⟩
              · refine cond_no (by assumption) ?_
                iterate 9 refine cond_no (by assumption) ?_
                exact ⟨(), ⟨by rw [h11]; rfl, trivial⟩, H⟩
            · rintro ⟨⟩ u w3 H1
              replace H : Hp _ _ _ _ _ := H1
              clear H1
              refine cut_rule (γ := Unit) _ rfl (fun _ => [(7, .bool ((decide (k < i) && withinB y x) && withinB x y))]) (fun _ w' => Hp w (fun _ => False) w' [] []) ?_ ?_
              · refine H.draw fol (by kernel_rfl) ?_
                clear H
                intro w4 H
                refine cond_dec (fun h5 => ?_) (fun h5 => ?_)
                · refine cond_yes (decide_eq_true (by assumption)) ?_
                  refine cond_yes (decide_eq_true (by assumption)) ?_
                  refine quiet _ (fun w H => idxAddr_sl Try.underlying89 (s := 1) size32 k rfl (by omega) (o' := o0 + k) (by omega) ⟨rfl, rfl⟩) ?_
                  refine cond_yes (decide_eq_true (by assumption)) ?_
                  refine quiet _ (fun w H => H.loadSl (i := k) ha aggrow _ rfl hgety ⟨rfl, rfl⟩) ?_
                  iterate 3 refine cond_yes (decide_eq_true (by assumption)) ?_
                  refine quiet _ (fun w H => idxAddr_sl Try.underlying89 (s := 1) size32 i rfl (by omega) (o' := o0 + i) (by omega) ⟨rfl, rfl⟩) ?_
                  refine cond_yes (decide_eq_true (by assumption)) ?_
                  refine quiet _ (fun w H => H.loadSl (i := i) ha aggrow _ rfl hget ⟨rfl, rfl⟩) ?_
                  refine cond_yes (decide_eq_true (by assumption)) ?_
                  refine call_fn (c177 y x By Bx cy cx _ hyl hxl (hsy.same H.keeps) (hsx.same H.keeps)) ?_ 
                  rintro _ w20 ⟨rfl, hk20⟩ 
                  replace H := H.same hk20 
                  clear hk20 
                  refine ⟨.inl H, ?_⟩
                  refine cond_yes (decide_eq_true (by assumption)) ?_
                  refine cond_split (fun h22 => ?_) (fun h22 => ?_)
                  · refine cond_yes (by assumption) ?_
                    refine cond_yes (by assumption) ?_
                    refine quiet _ (fun w H => idxAddr_sl Try.underlying89 (s := 1) size32 i rfl (by omega) (o' := o0 + i) (by omega) ⟨rfl, rfl⟩) ?_
                    refine cond_yes (by assumption) ?_
                    refine quiet _ (fun w H => H.loadSl (i := i) ha aggrow _ rfl hget ⟨rfl, rfl⟩) ?_
                    iterate 3 refine cond_yes (by assumption) ?_
                    refine quiet _ (fun w H => idxAddr_sl Try.underlying89 (s := 1) size32 k rfl (by omega) (o' := o0 + k) (by omega) ⟨rfl, rfl⟩) ?_
                    refine cond_yes (by assumption) ?_
                    refine quiet _ (fun w H => H.loadSl (i := k) ha aggrow _ rfl hgety ⟨rfl, rfl⟩) ?_
                    refine cond_yes (by assumption) ?_
                    refine call_fn (c177 x y Bx By cx cy _ hxl hyl (hsx.same H.keeps) (hsy.same H.keeps)) ?_ 
                    rintro _ w35 ⟨rfl, hk35⟩ 
                    replace H := H.same hk35 
                    clear hk35 
                    refine ⟨.inl H, ?_⟩
                    refine cond_yes (by assumption) ?_
                    exact ⟨(), ⟨by rw [decide_eq_true (show k < i by omega), h22]; rfl, trivial⟩, H⟩
                  · refine cond_no (by assumption) ?_
                    iterate 8 refine cond_no (by assumption) ?_
                    exact ⟨(), ⟨by rw [decide_eq_true (show k < i by omega), h22]; rfl, trivial⟩, H⟩
                · refine cond_no (decide_eq_false (by assumption)) ?_
                  iterate 8 refine cond_no (decide_eq_false (by assumption)) ?_
                  iterate 10 refine cond_no rfl ?_
                  exact ⟨(), ⟨by rw [decide_eq_false (show ¬ k < i by omega)]; rfl, trivial⟩, H⟩
              · rintro ⟨⟩ u w4 H1
                replace H : Hp _ _ _ _ _ := H1
                clear H1
                refine cut_rule (γ := Unit) _ rfl (fun _ => [(70, .bool (domR R i k))]) (fun _ w' => Hp w (fun _ => False) w' [] []) ?_ ?_
                · refine cond_split (fun h5 => ?_) (fun h5 => ?_)
                  · refine cond_yes (by assumption) ?_
                    exact ⟨(), ⟨by rw [← hdom, h5]; rfl, trivial⟩, H⟩
                  · refine cond_no (by assumption) ?_
                    exact ⟨(), ⟨by rw [← hdom, h5, Bool.false_or]; rfl, trivial⟩, H⟩
                · rintro ⟨⟩ u w5 H1
                  replace H : Hp _ _ _ _ _ := H1
                  refine cond_split (fun hd => ?_) (fun hd => ⟨(), trivial, hd, H⟩)
                  rw [rows_found hno (by omega) (by omega) hd]
                  clear H1
                  refine Hp.buildNil H T89 ?_
                  clear H
                  intro g5 w6 H
                  refine (ha.same H.keeps).sliceTo Try.underlying89 size32 rfl (by omega) ?_
                  intro A1 c1 hsl1
                  refine H.appendSl 0 T89 rfl hsl1 (fun u hu => hone u (List.mem_of_mem_take hu)) (by omega) (by omega) ?_
                  clear H
                  intro B1 d1 w7 H
                  refine (ha.same H.keeps).sliceFrom (i := i + 1) Try.underlying89 size32 (by rw [wrap_i64_in (by omega) (by omega)]; omega) (by omega) ?_
                  intro A2 c2 hsl2
                  refine H.appendSl 0 T89 rfl hsl2 (fun u hu => hone u (List.mem_of_mem_drop hu)) (by omega) (by omega) ?_
                  clear H
                  intro B2 d2 w8 H
                  have he := hva.erase i
                  rw [List.eraseIdx_eq_take_drop_succ] at he
                  refine ⟨_, rfl, newM_old H 0 rfl ?_ hS⟩
                  rw [Nat.mul_one, Nat.mul_one, List.nil_append]
                  exact he
          · rintro ⟨⟩ u w3 ⟨hdk, H1⟩
            exact ⟨k + 1, by show R.length - (k + 1) < R.length - k; omega, ⟨up (by omega), trivial⟩, ⟨by show k + 1 ≤ R.length; omega, lt_snoc hnk hdk⟩, H1⟩
        · have : k = R.length := by omega
          subst this
          exact ⟨(), trivial, hnk, H⟩
      · rintro ⟨⟩ u w5 ⟨hdk, H1⟩
        exact ⟨i + 1, by show R.length - (i + 1) < R.length - i; omega, ⟨up (by omega), trivial⟩, ⟨by show i + 1 ≤ R.length; omega, lt_snoc hno (any_no hdk)⟩, H1⟩
    · have : i = R.length := by omega
      subst this
      exact ⟨(), trivial, hno, H⟩
  · rintro ⟨⟩ u w4 ⟨hno, H1⟩
    replace H : Hp _ _ _ _ _ := H1
    clear H1
    rw [rows_none hno]
    exact ⟨_, rfl, newM_same H.keeps h1 hS⟩
end Go.Proofs.Ytjebpngdinbckaa
end

section
/- Coverings: Columns of the reference. -/
namespace Go.Proofs.Ytjebpngdinbckaa
open Go.Dk
attribute [local irreducible] IntKind.wrap

theorem cols_found {cols : Nat} {R : Mat} {c : Nat} (hno : ∀ c', c' < c → lessB cols R ((c' : Nat) : Int) = false) (hc : c < cols) (hd : lessB cols R (c : Int) = true) : colsS cols R = some (dropC R c) := by
  unfold colsS colsI
  rw [find_at (i := c) (x := c) (fun y hy => ?_) (by rw [List.getElem?_range hc]) hd]
  · rfl
  · rw [List.take_range, Nat.min_eq_left (by omega)] at hy
    exact hno y (List.mem_range.1 hy)
theorem cols_none {cols : Nat} {R : Mat} (hno : ∀ c, c < cols → lessB cols R ((c : Nat) : Int) = false) : colsS cols R = none := by
  unfold colsS colsI
  have : (List.range cols).find? (fun c : Nat => !(whereM R (c : Int)).isEmpty && (List.range cols).any fun d : Nat => domC R (c : Int) (d : Int)) = none := List.find?_eq_none.2 fun y hy => by
    have h := hno y (List.mem_range.1 hy)
    unfold lessB at h
    rw [h]; decide
  rw [this]; rfl
theorem drop_snoc {R : Mat} {i : Nat} {x : List Int} {c : Int} (hx : R[i]? = some x) : dropC (R.take (i + 1)) c = dropC (R.take i) c ++ [x.filter fun k => k != c] := by
  unfold dropC
  rw [List.take_add_one, hx, List.map_append]; rfl
theorem filt_snoc {l : List Int} {i : Nat} {x : Int} (q : Int → Bool) (hx : l[i]? = some x) : (l.take (i + 1)).filter q = (l.take i).filter q ++ (if q x then [x] else []) := by
  rw [List.take_add_one, hx, List.filter_append]
  cases h : q x <;> simp [h]
theorem intsI_snoc (l : List Int) (x : Int) : intsI (l ++ [x]) = intsI l ++ [.int .i64 x] := by simp [intsI]
theorem ent88 : enters Try.prog 88 = true := by kernel_rfl
theorem c88 (R : Mat) (cols : Nat) (v1 : Value) (S : Nat → Prop) (w : World) (hl : R.length ≤ 1000000000) (hcl : cols ≤ 1000000000) (hlr : ∀ r ∈ R, r.length ≤ 1000000000) (h1 : matOk S v1 R w) (hS : ∀ g, S g → g < w.heap.size) :
    Fun Try.prog 88 [v1, .int .i64 (cols : Int)] w fun v w' => ∃ v', v = .tuple #[v', .bool (colsS cols R).isSome] ∧ NewM S w w' v' ((colsS cols R).getD R) := by
  refine fun_of_W (N := 60) Try.func88 ent88 rfl rfl rfl (by simp) ?_
  have H := Hp.start0 w
  have h1' : MatAt w v1 R := MatR.mono h1 hS
  obtain ⟨A, ca, va, rfl, ha, hra⟩ := h1'.openM
  refine cut_rule (γ := Unit) _ rfl (fun _ => []) (fun _ w' => Hp.cl H w') ⟨(), trivial, H⟩ ?_
  rintro ⟨⟩ u w0 H1
  replace H : Hp _ _ _ _ _ := H1
  clear H1
  refine cut_rule (γ := Unit) _ rfl (fun _ => []) (fun _ w' => (∀ c, c < cols → lessB cols R ((c : Nat) : Int) = false) ∧ Hp w (fun _ => False) w' [] []) ?_ ?_
  · refine loop_rule (γ := Nat) _ rfl (fun c => [(6, .int .i64 (c : Int))]) (fun c w' => (c ≤ cols ∧ ∀ c', c' < c → lessB cols R ((c' : Nat) : Int) = false) ∧ Hp w (fun _ => False) w' [] []) (fun c => cols - c) 0 ⟨rfl, trivial⟩ ⟨⟨Nat.zero_le _, fun i' h => by omega⟩, H⟩ ?_
    clear H
    rintro c u w1 ⟨⟨hc, hno⟩, H⟩
    replace H : Hp _ _ _ _ _ := H
    refine cond_dec (fun h7 => ?_) (fun h7 => ?_)
    · refine call_fn (c178 R cols (c : Int) _ _ hl hcl hlr (h1'.same H.keeps)) ?_
      rintro _ w2 ⟨rfl, hk⟩
      replace H := H.same hk
      clear hk
      refine cond_split (fun hd => ?_) (fun hd => ?_)
      · rw [cols_found hno (by omega) hd]
        refine cut_rule (γ := Unit) _ rfl (fun _ => [(7, .slice none 0 0)]) (fun _ w' => Hp.cl H w') ⟨(), ⟨rfl, trivial⟩, H⟩ ?_
        rintro ⟨⟩ u w3 H1
        replace H : Hp _ _ _ _ _ := H1
        clear H1
        have H2 := (H.ownNil 32 1).noRows
        clear H
        refine cut_rule (γ := Option Addr × Nat × List Value × (Nat → Prop)) _ rfl (fun (B, d, hs, _) => [(7, .slice B hs.length d)])
          (fun (B, d, hs, S') w' => (∀ g, S' g → w.heap.size ≤ g) ∧ Hp w (fun _ => False) w' [own 32 1 (.slice B hs.length d) hs.length hs] [rowsR S' hs (dropC R (c : Int))]) ?_ ?_
        · refine loop_rule (γ := Nat × Option Addr × Nat × List Value × (Nat → Prop)) _ rfl (fun (i, B, d, hs, _) => [(8, .int .i64 (i : Int)), (7, .slice B hs.length d)])
            (fun (i, B, d, hs, S') w' => (i ≤ R.length ∧ hs.length = i ∧ ∀ g, S' g → w.heap.size ≤ g) ∧ Hp w (fun _ => False) w' [own 32 1 (.slice B hs.length d) hs.length hs] [rowsR S' hs (dropC (R.take i) (c : Int))])
            (fun (i, _) => R.length - i) (0, none, 0, [], fun _ => False) ⟨rfl, rfl, trivial⟩ ⟨⟨Nat.zero_le _, rfl, fun g h => h.elim⟩, H2⟩ ?_
          clear H2
          rintro ⟨i, B, d, hs, S'⟩ u w4 ⟨⟨hi, hhl, hS'⟩, H⟩
          replace H : Hp _ _ _ _ _ := H
          refine len_sl Try.underlying89 ?_
          refine cond_dec (fun h8 => ?_) (fun h8 => ?_)
          · obtain ⟨x, hx⟩ : ∃ x, R[i]? = some x := ⟨_, List.getElem?_eq_getElem (by omega)⟩
            obtain ⟨g0, o0, rfl⟩ := ha.A (by omega)
            obtain ⟨Bx, cx, hget, hsx⟩ := hra i x hx
            have hxl := hlr x (List.mem_of_getElem? hx)
            refine cut_rule (γ := Option Addr × Nat × Nat × List Value × Option Addr × (Nat → Prop)) _ rfl (fun (B, d, n, _) => [(7, .slice B n d)])
              (fun (B, d, n, hs', _, S2) w' => (n = hs'.length ∧ n = i + 1 ∧ ∀ g, S2 g → w.heap.size ≤ g) ∧ Hp w (fun _ => False) w' [own 32 1 (.slice B n d) n hs'] [rowsR S2 hs' (dropC (R.take (i + 1)) (c : Int))]) ?_ ?_
            · refine cut_rule (γ := Unit) _ rfl (fun _ => [(9, .slice none 0 0)]) (fun _ w' => Hp.cl H w') ⟨(), ⟨rfl, trivial⟩, H⟩ ?_
              rintro ⟨⟩ u w5 H1
              replace H : Hp _ _ _ _ _ := H1
              clear H1
              have H2 := H.ownNil 3 1
              clear H
              refine cut_rule (γ := Option Addr × Nat) _ rfl (fun (B2, d2) => [(9, .slice B2 (x.filter fun k => k != (c : Int)).length d2)])
                (fun (B2, d2) w' => Hp w (fun _ => False) w' [own 3 1 (.slice B2 (x.filter fun k => k != (c : Int)).length d2) (x.filter fun k => k != (c : Int)).length (intsI (x.filter fun k => k != (c : Int))), own 32 1 (.slice B hs.length d) hs.length hs] [rowsR S' hs (dropC (R.take i) (c : Int))]) ?_ ?_
              · refine loop_rule (γ := Nat × Option Addr × Nat) _ rfl (fun (j, B2, d2) => [(10, .int .i64 (j : Int)), (9, .slice B2 ((x.take j).filter fun k => k != (c : Int)).length d2)])
                  (fun (j, B2, d2) w' => j ≤ x.length ∧ Hp w (fun _ => False) w' [own 3 1 (.slice B2 ((x.take j).filter fun k => k != (c : Int)).length d2) ((x.take j).filter fun k => k != (c : Int)).length (intsI ((x.take j).filter fun k => k != (c : Int))), own 32 1 (.slice B hs.length d) hs.length hs] [rowsR S' hs (dropC (R.take i) (c : Int))])
                  (fun (j, _) => x.length - j) (0, none, 0) ⟨rfl, rfl, trivial⟩ ⟨Nat.zero_le _, H2⟩ ?_
                clear H2
                rintro ⟨j, B2, d2⟩ u w6 ⟨hj, H⟩
                replace H : Hp _ _ _ _ _ := H
                refine idxAddr_sl Try.underlying89 (s := 1) size32 i rfl (by omega) (o' := o0 + i) (by omega) ?_
                refine H.loadSl (i := i) ha aggrow _ rfl hget ?_
                refine len_sl Try.underlying32 ?_
                refine cond_dec (fun h9 => ?_) (fun h9 => ?_)
                · obtain ⟨k, hk⟩ : ∃ k, x[j]? = some k := ⟨_, List.getElem?_eq_getElem (by omega)⟩
                  obtain ⟨g2, o2, rfl⟩ := hsx.A (by omega)
                  have hgk : (intsI x)[j]? = some (.int .i64 k) := by rw [intsI, List.getElem?_map, hk]; rfl
                  have hsn := filt_snoc (fun k => k != (c : Int)) hk
                  have hfl := List.length_filter_le (fun k => k != (c : Int)) (x.take j)
                  rw [List.length_take] at hfl
                  refine idxAddr_sl Try.underlying89 (s := 1) size32 i rfl (by omega) (o' := o0 + i) (by omega) ?_
                  refine H.loadSl (i := i) ha aggrow _ rfl hget ?_
                  refine idxAddr_sl Try.underlying32 (s := 1) size3 j rfl (by omega) (o' := o2 + j) (by omega) ?_
                  refine H.loadSl (i := j) hsx agg3 _ rfl hgk ?_
                  refine cond_split (fun hb => ?_) (fun hb => ?_)
                  · rw [if_pos hb] at hsn
                    refine idxAddr_sl Try.underlying89 (s := 1) size32 i rfl (by omega) (o' := o0 + i) (by omega) ?_
                    refine H.loadSl (i := i) ha aggrow _ rfl hget ?_
                    refine idxAddr_sl Try.underlying32 (s := 1) size3 j rfl (by omega) (o' := o2 + j) (by omega) ?_
                    refine H.loadSl (i := j) hsx agg3 _ rfl hgk ?_
                    refine H.buildOne T32 rfl ?_
                    clear H
                    intro g7 w7 H
                    refine H.appendOne 0 T32 rfl rfl (by omega) (by omega) ?_
                    clear H
                    intro B3 d3 w8 H
                    have e1 : ((x.take (j + 1)).filter fun k => k != (c : Int)).length = ((x.take j).filter fun k => k != (c : Int)).length + 1 := by rw [hsn]; simp
                    have e2 : intsI ((x.take (j + 1)).filter fun k => k != (c : Int)) = intsI ((x.take j).filter fun k => k != (c : Int)) ++ [.int .i64 k] := by rw [hsn, intsI_snoc]
                    exact ⟨(j + 1, B3, d3), by show x.length - (j + 1) < x.length - j; omega, ⟨up (by omega), by rw [e1]; rfl, trivial⟩, by show j + 1 ≤ x.length; omega, by rw [e1, e2]; exact H⟩
                  · rw [if_neg (by rw [hb]; decide), List.append_nil] at hsn
                    exact ⟨(j + 1, B2, d2), by show x.length - (j + 1) < x.length - j; omega, ⟨up (by omega), by rw [hsn]; rfl, trivial⟩, by show j + 1 ≤ x.length; omega, by rw [hsn]; exact H⟩
                · have e : x.take j = x := List.take_of_length_le (by omega)
                  rw [e] at H
                  exact ⟨(B2, d2), ⟨congrArg (fun l : List Int => Value.slice B2 (l.filter fun k => k != (c : Int)).length d2) e, trivial⟩, H⟩
              · clear H2
                rintro ⟨B2, d2⟩ u w6 H
                replace H : Hp _ _ _ _ _ := H
                refine H.buildOne T89 rfl ?_
                clear H
                intro g7 w7 H
                refine H.appendOne 1 T89 rfl rfl (by omega) (by omega) ?_
                clear H
                intro B3 d3 w8 H
                obtain ⟨S2, H3, hS2⟩ := H.addRow hS'
                rw [← drop_snoc hx] at H3
                exact ⟨(B3, d3, hs.length + 1, _, none, S2), ⟨rfl, trivial⟩, ⟨by simp, by omega, hS2⟩, H3⟩
            · clear H
              rintro ⟨B3, d3, n, hs3, _, S2⟩ u w5 ⟨⟨rfl, hn1, hS2⟩, H⟩
              exact ⟨(i + 1, B3, d3, hs3, S2), by show R.length - (i + 1) < R.length - i; omega, ⟨up (by omega), rfl, trivial⟩, ⟨by show i + 1 ≤ R.length; omega, hn1, hS2⟩, H⟩
          · have : i = R.length := by omega
            subst this
            rw [List.take_length] at H
            exact ⟨(B, d, hs, S'), ⟨rfl, trivial⟩, hS', H⟩
        · clear H2
          rintro ⟨B, d, hs, S'⟩ u w4 ⟨hS', H⟩
          replace H : Hp _ _ _ _ _ := H
          exact ⟨_, rfl, newM_of H 0 rfl (H.ro 0 rfl) fun g hg => ⟨H.rlt _ (.head _) g hg, .inl (hS' g hg)⟩⟩
      · exact ⟨c + 1, by show cols - (c + 1) < cols - c; omega, ⟨up (by omega), trivial⟩, ⟨by show c + 1 ≤ cols; omega, lt_snoc hno hd⟩, H⟩
    · have : c = cols := by omega
      subst this
      exact ⟨(), trivial, hno, H⟩
  · clear H
    rintro ⟨⟩ u w4 ⟨hno, H⟩
    replace H : Hp _ _ _ _ _ := H
    rw [cols_none hno]
    exact ⟨_, rfl, newM_same H.keeps h1 hS⟩
end Go.Proofs.Ytjebpngdinbckaa
end

section
/- Coverings: Columns. -/
namespace Go.Proofs.Ytjebpngdinbckaa
open Go.Dk
attribute [local irreducible] IntKind.wrap

def kaI (c : Int) : Value := .int .i64 c
theorem kaI_inj (a b : Int) (h : kaI a = kaI b) : a = b := by injection h
theorem KL3 : KL Try.prog 3 fun v => ∃ a, v = kaI a := (KL.of_now Try.underlying3).mono fun v ⟨a, h⟩ => by subst h; exact rfl
theorem W208 : MapW Try.prog 208 3 32 kaI (fun v : Value => v) (.slice none 0 0) := ⟨Try.underlying208, KL3, kaI_inj, by kernel_rfl⟩
/-- Columns, as it is called. -/
def colsO (cols : Int) (R : Mat) : Option Mat := if rightB cols R then colsS cols.toNat R else none
theorem prog_test (R : Mat) (c d : Int) : ((d == c || !withinB (whereM R c) (whereM R d)) || (decide ((whereM R d).length = (whereM R c).length) && decide (d > c))) = !progC R c d := by
  unfold progC
  have h1 : (d == c) = !(d != c) := by simp [bne]
  rw [h1]
  have h2 : decide (d > c) = decide (c < d) := rfl
  rw [h2]
  cases (d != c) <;> cases withinB (whereM R c) (whereM R d) <;> simp
theorem where_head {R : Mat} {c : Int} (h : (whereM R c).length ≠ 0) : ∃ (n : Nat) (l : List Int), whereM R c = (n : Int) :: l ∧ n < R.length := by
  cases hw : whereM R c with
  | nil => rw [hw] at h; simp at h
  | cons i l =>
    obtain ⟨n, hn, rfl, _⟩ := where_mem.1 (show i ∈ whereM R c by rw [hw]; exact .head _)
    exact ⟨n, l, rfl, hn⟩
def partW (R : Mat) (c : Int) (i : Nat) (x : List Int) (j : Nat) : List Int := whereTo R c i ++ if c ∈ x.take j then [(i : Int)] else []
theorem part_zero (R : Mat) (c : Int) (i : Nat) (x : List Int) : partW R c i x 0 = whereTo R c i := by simp [partW]
theorem partW_full {R : Mat} {i : Nat} {x : List Int} (hx : R[i]? = some x) (c : Int) : partW R c i x x.length = whereTo R c (i + 1) := by
  unfold partW; rw [List.take_length, where_succ hx]
theorem part_step (R : Mat) (i : Nat) {x : List Int} (hn : x.Nodup) {j : Nat} {k : Int} (hk : x[j]? = some k) (c : Int) : partW R c i x (j + 1) = if c = k then partW R c i x j ++ [(i : Int)] else partW R c i x j := by
  have htk : x.take (j + 1) = x.take j ++ [k] := by rw [List.take_add_one, hk]; rfl
  have hkn : k ∉ x.take j := fun h => by
    obtain ⟨m, hm, he⟩ := List.getElem_of_mem h
    rw [List.length_take] at hm
    rw [List.getElem_take] at he
    have h1 : x[m]? = some k := by rw [List.getElem?_eq_getElem (by omega), he]
    have := (List.getElem?_inj (by omega) hn).1 (h1.trans hk.symm)
    omega
  unfold partW
  rw [htk]
  by_cases hc : c = k
  · subst hc
    rw [if_pos rfl, if_pos (List.mem_append_right _ (.head _)), if_neg hkn, List.append_nil]
  · rw [if_neg hc]
    have : (c ∈ x.take j ++ [k]) ↔ c ∈ x.take j := by simp [hc]
    by_cases h : c ∈ x.take j
    · rw [if_pos (this.2 h), if_pos h]
    · rw [if_neg (fun h' => h (this.1 h')), if_neg h]
theorem part_le (R : Mat) (c : Int) (i : Nat) (x : List Int) (j : Nat) : (partW R c i x j).length ≤ i + 1 := by
  have := whereTo_le R c i
  unfold partW
  split
  · simp; omega
  · simp; omega
theorem ent83 : enters Try.prog 83 = true := by kernel_rfl
theorem c83 (cols : Int) (R : Mat) (v1 : Value) (S : Nat → Prop) (w : World) (hl : R.length ≤ 1000000000) (hlr : ∀ r ∈ R, r.length ≤ 1000000000) (h1 : matOk S v1 R w) (hS : ∀ g, S g → g < w.heap.size) :
    Fun Try.prog 83 [mv cols v1] w fun v w' => ∃ v', v = .tuple #[mv cols v', .bool (colsO cols R).isSome] ∧ NewM S w w' v' ((colsO cols R).getD R) := by
  refine fun_of_W (N := 135) Try.func83 ent83 rfl rfl rfl (by simp) ?_
  have H := startM h1 hS
  have h1' : MatAt w v1 R := MatR.mono h1 hS
  obtain ⟨A, ca, va, rfl, ha, hra⟩ := h1'.openM
  refine H.box 91 (mv _ _) (cs := mc _ _) rfl ?_
  clear H
  intro g1 w1 H
  refine H.alloc 91 zero91 rfl ?_
  clear H
  intro g2 w2 H
  refine H.loadAll 1 rfl agg91 size91 ?_
  refine call_fn (c171 cols R _ _ hl hlr (h1'.same H.keeps)) ?_
  rintro _ w3 ⟨rfl, hk⟩
  replace H := H.same hk
  clear hk
  refine cond_split (fun hr => ?_) (fun hr => ?_)
  · have hno : colsO cols R = none := by unfold colsO; rw [if_neg]; simpa using hr
    rw [hno]
    refine H.loadAll 1 rfl agg91 size91 ?_
    refine H.storeAll 0 rfl size91 rfl (fun v hv => mc_one v hv) ?_
    clear H
    intro w4 H
    refine H.loadAll 0 rfl agg91 size91 ?_
    refine ⟨rfl, ?_⟩
    exact ⟨_, rfl, H.outM fun g hg => .inr hg⟩
  have hr' : rightB cols R = true := by simpa using hr
  have hright := rightB_iff.1 hr'
  obtain ⟨n, rfl⟩ : ∃ n : Nat, cols = n := ⟨cols.toNat, by have := hright.ge; omega⟩
  have hn4 : n ≤ 4000 := by have := hright.le; omega
  have htk : colsO (n : Int) R = colsS n R := by unfold colsO; rw [if_pos hr', Int.toNat_natCast]
  rw [htk]
  refine cut_rule (γ := Nat) _ rfl (fun r => [(4, .map (some r))]) (fun r w' => Hp w (fun _ => False) w' [msR kaI 3 r ([] : MsL Int), blk g2 91 (mv 0 (.slice none 0 0)).cells, blk g1 91 (mc n (.slice A R.length ca))] [MatR S (.slice A R.length ca) R]) ?_ ?_
  · refine H.msMake kaI 3 ?_
    clear H
    intro r w4 H
    exact ⟨r, ⟨rfl, trivial⟩, H⟩
  clear H
  rintro r u w4 H
  replace H : Hp _ _ _ _ _ := H
  refine cut_rule (γ := MsL Int) _ rfl (fun _ => []) (fun l w' => (∀ c, msX l c = intsI (whereM R c)) ∧ Hp w (fun _ => False) w' [msR kaI 3 r l, blk g2 91 (mv 0 (.slice none 0 0)).cells, blk g1 91 (mc n (.slice A R.length ca))] [MatR S (.slice A R.length ca) R]) ?_ ?_
  · refine fieldAddr_by (fa91_1 _) ?_
    refine H.load 2 rfl agg89 rfl ?_
    refine len_sl Try.underlying89 ?_
    refine loop_rule (γ := Nat × MsL Int) _ rfl (fun (i, _) => [(26, .int .i64 (i : Int))])
      (fun (i, l) w' => (i ≤ R.length ∧ ∀ c, msX l c = intsI (whereTo R c i)) ∧ Hp w (fun _ => False) w' [msR kaI 3 r l, blk g2 91 (mv 0 (.slice none 0 0)).cells, blk g1 91 (mc n (.slice A R.length ca))] [MatR S (.slice A R.length ca) R])
      (fun (i, _) => R.length - i) (0, []) ⟨rfl, trivial⟩ ⟨⟨Nat.zero_le _, fun c => rfl⟩, H⟩ ?_
    clear H
    rintro ⟨i, l⟩ u w5 ⟨⟨hi, hw⟩, H⟩
    replace H : Hp _ _ _ _ _ := H
    refine cond_dec (fun h7 => ?_) (fun h7 => ?_)
    · obtain ⟨x, hx⟩ : ∃ x, R[i]? = some x := ⟨_, List.getElem?_eq_getElem (by omega)⟩
      obtain ⟨g0, o0, rfl⟩ := ha.A (by omega)
      obtain ⟨Bx, cx, hget, hsx⟩ := hra i x hx
      have hxm := List.mem_of_getElem? hx
      have hxl := hlr x hxm
      have hxn := (hright.rise x hxm).nodup
      refine cut_rule (γ := MsL Int) _ rfl (fun _ => []) (fun l w' => (∀ c, msX l c = intsI (whereTo R c (i + 1))) ∧ Hp w (fun _ => False) w' [msR kaI 3 r l, blk g2 91 (mv 0 (.slice none 0 0)).cells, blk g1 91 (mc n (.slice (some ⟨g0, o0, none⟩) R.length ca))] [MatR S (.slice (some ⟨g0, o0, none⟩) R.length ca) R]) ?_ ?_
      · refine cut_rule (γ := Unit) _ rfl (fun _ => [(5, .int .i64 (i : Int)), (6, .slice Bx x.length cx)]) (fun _ w' => Hp.cl H w') ?_ ?_
        · refine idxAddr_sl Try.underlying89 (s := 1) size32 i rfl (by omega) (o' := o0 + i) (by omega) ?_
          refine H.loadSl (i := i) ha aggrow _ rfl hget ?_
          exact ⟨(), ⟨rfl, rfl, trivial⟩, H⟩
        rintro ⟨⟩ u w6 H1
        replace H : Hp _ _ _ _ _ := H1
        clear H1
        refine len_sl Try.underlying32 ?_
        refine loop_rule (γ := Nat × MsL Int) _ rfl (fun (j, _) => [(33, .int .i64 (j : Int))])
          (fun (j, l) w' => (j ≤ x.length ∧ ∀ c, msX l c = intsI (partW R c i x j)) ∧ Hp w (fun _ => False) w' [msR kaI 3 r l, blk g2 91 (mv 0 (.slice none 0 0)).cells, blk g1 91 (mc n (.slice (some ⟨g0, o0, none⟩) R.length ca))] [MatR S (.slice (some ⟨g0, o0, none⟩) R.length ca) R])
          (fun (j, _) => x.length - j) (0, l) ⟨rfl, trivial⟩ ⟨⟨Nat.zero_le _, fun c => by rw [part_zero]; exact hw c⟩, H⟩ ?_
        clear H hw
        rintro ⟨j, l⟩ u w7 ⟨⟨hj, hw⟩, H⟩
        replace H : Hp _ _ _ _ _ := H
        refine cond_dec (fun h8 => ?_) (fun h8 => ?_)
        · obtain ⟨k, hk⟩ : ∃ k, x[j]? = some k := ⟨_, List.getElem?_eq_getElem (by omega)⟩
          obtain ⟨g3, o3, rfl⟩ := hsx.A (by omega)
          have hgk : (intsI x)[j]? = some (.int .i64 k) := by rw [intsI, List.getElem?_map, hk]; rfl
          have hle := part_le R k i x j
          have hlen : (msX l k).length = (partW R k i x j).length := by rw [hw k]; simp [intsI]
          refine cut_rule (γ := MsL Int) _ rfl (fun _ => []) (fun l w' => (∀ c, msX l c = intsI (partW R c i x (j + 1))) ∧ Hp w (fun _ => False) w' [msR kaI 3 r l, blk g2 91 (mv 0 (.slice none 0 0)).cells, blk g1 91 (mc n (.slice (some ⟨g0, o0, none⟩) R.length ca))] [MatR S (.slice (some ⟨g0, o0, none⟩) R.length ca) R]) ?_ ?_
          · refine cut_rule (γ := Unit) _ rfl (fun _ => [(8, .int .i64 k)]) (fun _ w' => Hp.cl H w') ?_ ?_
            · refine idxAddr_sl Try.underlying32 (s := 1) size3 j rfl (by omega) (o' := o3 + j) (by omega) ?_
              refine H.loadSl (i := j) hsx agg3 _ rfl hgk ?_
              exact ⟨(), ⟨rfl, trivial⟩, H⟩
            rintro ⟨⟩ u w8 H1
            replace H : Hp _ _ _ _ _ := H1
            clear H1
            obtain ⟨A0, c0, hform⟩ := msR_form (H.get 0 rfl) k
            refine msLookup_at (H.get 0 rfl) W208 k ?_
            obtain ⟨v, xs, Ls, hv, hxs, H2, close⟩ := H.msOpen kaI_inj k
            subst hv; subst hxs
            clear H
            rw [hform] at H2 ⊢
            refine H2.buildOne T32 rfl ?_
            clear H2
            intro g9 w9 H2
            refine H2.appendOne 1 T32 rfl rfl (by omega) (by omega) ?_
            clear H2
            intro B2 d2 w10 H2
            refine H2.mapSet 0 rfl W208 k (.slice B2 ((msX l k).length + 1) d2) ?_
            clear H2
            intro w11 H2
            have e0 : (msX l k).length + 1 = (msX l k ++ [Value.int .i64 (i : Int)]).length := by simp
            rw [e0] at H2
            refine ⟨_, trivial, fun c => ?_, close _ _ _ H2⟩
            rw [msX_aset, part_step R i hxn hk]
            by_cases hc : c = k
            · rw [if_pos hc, if_pos hc, hc, hw k, intsI_snoc]
            · rw [if_neg hc, if_neg hc, hw c]
          · clear H hw
            rintro l2 u w8 ⟨hw, H⟩
            replace H : Hp _ _ _ _ _ := H
            exact ⟨(j + 1, l2), by show x.length - (j + 1) < x.length - j; omega, ⟨up (by omega), trivial⟩, ⟨by show j + 1 ≤ x.length; omega, hw⟩, H⟩
        · have : j = x.length := by omega
          subst this
          exact ⟨l, trivial, fun c => by rw [hw c, partW_full hx], H⟩
      · clear H hw
        rintro l2 u w6 ⟨hw, H⟩
        replace H : Hp _ _ _ _ _ := H
        exact ⟨(i + 1, l2), by show R.length - (i + 1) < R.length - i; omega, ⟨up (by omega), trivial⟩, ⟨by show i + 1 ≤ R.length; omega, hw⟩, H⟩
    · have : i = R.length := by omega
      subst this
      exact ⟨l, trivial, hw, H⟩
  clear H
  rintro l u w5 ⟨hw, H⟩
  replace H : Hp _ _ _ _ _ := H
  have hwl := where_len R
  have hlen : ∀ c, (msX l c).length = (whereM R c).length := fun c => by rw [hw c]; simp [intsI]
  have hmsl : ∀ u : World, (msR kaI 3 r l).ok u → ∀ c, ∃ A c', msV l c = .slice A (whereM R c).length c' ∧ Sl u (.slice A (whereM R c).length c') 1 (whereM R c).length (intsI (whereM R c)) := fun u hu c => by
    obtain ⟨A, c', h⟩ := msR_form hu c
    have ho := own_Sl (msR_own hu c)
    rw [h, hlen c, hw c] at ho
    rw [hlen c] at h
    exact ⟨A, c', h, ho⟩
  have hlook : ∀ (u : World) (c : Int) (A : Option Addr) (c' : Nat) (kk : Value → World → Prop), (msR kaI 3 r l).ok u → msV l c = .slice A (whereM R c).length c' → kk (.slice A (whereM R c).length c') u → lookupK Try.prog 208 (.map (some r)) (.int .i64 c) false u kk := fun u c A c' kk hu hv hkk =>
    msLookup_at hu W208 c (by rw [hv]; exact hkk)
  refine cut_rule (γ := Unit) _ rfl (fun _ => []) (fun _ w' => (∀ c, c < n → lessB n R ((c : Nat) : Int) = false) ∧ Hp w (fun _ => False) w' [msR kaI 3 r l, blk g2 91 (mv 0 (.slice none 0 0)).cells, blk g1 91 (mc n (.slice A R.length ca))] [MatR S (.slice A R.length ca) R]) ?_ ?_
  · refine fieldAddr_by (fa91_0 _) ?_
    refine H.load 2 rfl agg3 rfl ?_
    refine loop_rule (γ := Nat) _ rfl (fun c => [(49, .int .i64 (c : Int))]) (fun c w' => (c ≤ n ∧ ∀ c', c' < c → lessB n R ((c' : Nat) : Int) = false) ∧ Hp w (fun _ => False) w' [msR kaI 3 r l, blk g2 91 (mv 0 (.slice none 0 0)).cells, blk g1 91 (mc n (.slice A R.length ca))] [MatR S (.slice A R.length ca) R]) (fun c => n - c) 0 ⟨rfl, trivial⟩ ⟨⟨Nat.zero_le _, fun i' h => by omega⟩, H⟩ ?_
    clear H
    rintro c u w6 ⟨⟨hc, hno⟩, H⟩
    replace H : Hp _ _ _ _ _ := H
    refine cond_dec (fun h7 => ?_) (fun h7 => ?_)
    · refine cut_rule (γ := Unit) _ rfl (fun _ => []) (fun _ w' => lessB n R (c : Int) = false ∧ Hp w (fun _ => False) w' [msR kaI 3 r l, blk g2 91 (mv 0 (.slice none 0 0)).cells, blk g1 91 (mc n (.slice A R.length ca))] [MatR S (.slice A R.length ca) R]) ?_ ?_
      · obtain ⟨Ac, cc, hvc, hsc⟩ := hmsl _ (H.get 0 rfl) (c : Int)
        refine hlook _ _ _ _ _ (H.get 0 rfl) hvc ?_
        refine len_sl Try.underlying32 ?_
        refine cond_beq (fun h9 => ?_) (fun h9 => ?_)
        · exact ⟨(), trivial, less_nil (by omega), H⟩
        obtain ⟨i0, lw, hwc, hi0⟩ := where_head (R := R) (c := (c : Int)) (by omega)
        have hany := cols_any hright hwc
        obtain ⟨y, hy⟩ : ∃ y, R[i0]? = some y := ⟨_, List.getElem?_eq_getElem hi0⟩
        rw [show R.getD i0 [] = y by rw [List.getD_eq_getElem?_getD, hy]; rfl] at hany
        have hyl := hlr y (List.mem_of_getElem? hy)
        obtain ⟨g0, o0, rfl⟩ := ha.A (by omega)
        obtain ⟨By, cy, hgety, hsy⟩ := hra i0 y hy
        obtain ⟨gc, oc, rfl⟩ := hsc.A (by omega)
        have hsl2 : ∀ u : World, (msR kaI 3 r l).ok u → ∀ (d : Int) (A : Option Addr) (c' : Nat), msV l d = .slice A (whereM R d).length c' → Sl u (.slice A (whereM R d).length c') 1 (whereM R d).length (intsI (whereM R d)) := fun u hu d A c' h => by
          have ho := own_Sl (msR_own hu d)
          rwa [h, hlen d, hw d] at ho
        refine H.draw fol (by kernel_rfl) ?_
        clear H
        intro w7 H
        refine quiet _ (fun w H => fieldAddr_by (fa91_1 _) ⟨rfl, rfl⟩) ?_
        refine quiet _ (fun w H => H.load 2 rfl agg89 rfl ⟨rfl, rfl⟩) ?_
        refine quiet _ (fun w H => hlook _ _ _ _ _ (H.get 0 rfl) hvc ⟨rfl, rfl⟩) ?_
        refine quiet _ (fun w H => idxAddr_sl Try.underlying32 (s := 1) size3 0 rfl (by omega) (o' := oc) (by omega) ⟨rfl, rfl⟩) ?_
        refine quiet (.int .i64 (i0 : Int)) (fun w H => load_cell agg3 (((hsl2 _ (H.get 0 rfl) _ _ _ hvc).cell 0 (by omega)).trans (by rw [hwc]; rfl)) ⟨rfl, rfl⟩) ?_
        refine quiet _ (fun w H => idxAddr_sl Try.underlying89 (s := 1) size32 i0 rfl (by omega) (o' := o0 + i0) (by omega) ⟨rfl, rfl⟩) ?_
        refine quiet _ (fun w H => H.loadSl (i := i0) ha aggrow _ rfl hgety ⟨rfl, rfl⟩) ?_
        refine quiet _ (fun w H => len_sl Try.underlying32 ⟨rfl, rfl⟩) ?_
        refine loop_rule (γ := Nat) _ rfl (fun j => [(67, .int .i64 (j : Int))]) (fun j w' => (j ≤ y.length ∧ ∀ d ∈ y.take j, progC R (c : Int) d = false) ∧ Hp w (fun _ => False) w' [msR kaI 3 r l, blk g2 91 (mv 0 (.slice none 0 0)).cells, blk g1 91 (mc n (.slice (some ⟨g0, o0, none⟩) R.length ca))] [MatR S (.slice (some ⟨g0, o0, none⟩) R.length ca) R]) (fun j => y.length - j) 0 ⟨rfl, trivial⟩ ⟨⟨Nat.zero_le _, by simp⟩, H⟩ ?_
        clear H hsc
        rintro j u w8 ⟨⟨hj, hnj⟩, H⟩
        replace H : Hp _ _ _ _ _ := H
        refine cond_dec (fun h10 => ?_) (fun h10 => ?_)
        · obtain ⟨d, hd⟩ : ∃ d, y[j]? = some d := ⟨_, List.getElem?_eq_getElem (by omega)⟩
          obtain ⟨gy, oy, rfl⟩ := hsy.A (by omega)
          have hgd : (intsI y)[j]? = some (.int .i64 d) := by rw [intsI, List.getElem?_map, hd]; rfl
          refine cut_rule (γ := Unit) _ rfl (fun _ => []) (fun _ w' => progC R (c : Int) d = false ∧ Hp w (fun _ => False) w' [msR kaI 3 r l, blk g2 91 (mv 0 (.slice none 0 0)).cells, blk g1 91 (mc n (.slice (some ⟨g0, o0, none⟩) R.length ca))] [MatR S (.slice (some ⟨g0, o0, none⟩) R.length ca) R]) ?_ ?_
          · refine cut_rule (γ := Unit) _ rfl (fun _ => [(11, .int .i64 d)]) (fun _ w' => Hp.cl H w') ?_ ?_
            · refine idxAddr_sl Try.underlying32 (s := 1) size3 j rfl (by omega) (o' := oy + j) (by omega) ?_
              refine H.loadSl (i := j) hsy agg3 _ rfl hgd ?_
              exact ⟨(), ⟨rfl, trivial⟩, H⟩
            rintro ⟨⟩ u w9 H1
            replace H : Hp _ _ _ _ _ := H1
            clear H1
            obtain ⟨Ad, cd, hvd, hsd⟩ := hmsl _ (H.get 0 rfl) d
            have htest := prog_test R (c : Int) d
            have hc1 := hwl (c : Int)
            have hd1 := hwl d
            refine cut_rule (γ := Unit) _ rfl (fun _ => []) (fun _ w' => progC R (c : Int) d = true ∧ Hp w (fun _ => False) w' [msR kaI 3 r l, blk g2 91 (mv 0 (.slice none 0 0)).cells, blk g1 91 (mc n (.slice (some ⟨g0, o0, none⟩) R.length ca))] [MatR S (.slice (some ⟨g0, o0, none⟩) R.length ca) R]) ?_ ?_
            · refine cut_rule (γ := Unit) _ rfl (fun _ => [(99, .bool (!progC R (c : Int) d))]) (fun _ w' => Hp w (fun _ => False) w' [msR kaI 3 r l, blk g2 91 (mv 0 (.slice none 0 0)).cells, blk g1 91 (mc n (.slice (some ⟨g0, o0, none⟩) R.length ca))] [MatR S (.slice (some ⟨g0, o0, none⟩) R.length ca) R]) ?_ ?_
              · refine cond_beq (fun h11 => ?_) (fun h11 => ?_)
                · refine cond_yes (beq_iff_eq.2 (by assumption)) ?_
                  iterate 7 refine cond_yes (beq_iff_eq.2 (by assumption)) ?_
                  iterate 12 refine cond_yes rfl ?_
                  exact ⟨(), ⟨by rw [← htest, beq_iff_eq.2 h11]; rfl, trivial⟩, H⟩
                · refine cond_no (beq_eq_false_iff_ne.2 (by assumption)) ?_
                  refine cond_no (beq_eq_false_iff_ne.2 (by assumption)) ?_
                  refine hlook _ (c : Int) _ _ _ (H.get 0 rfl) hvc ?_
                  iterate 3 refine cond_no (beq_eq_false_iff_ne.2 (by assumption)) ?_
                  refine hlook _ d _ _ _ (H.get 0 rfl) hvd ?_
                  refine cond_no (beq_eq_false_iff_ne.2 (by assumption)) ?_
                  refine call_fn (c175 _ _ _ _ _ _ _ (Nat.le_trans hc1 hl) (Nat.le_trans hd1 hl) (hsl2 _ (H.get 0 rfl) _ _ _ hvc) (hsl2 _ (H.get 0 rfl) _ _ _ hvd)) ?_ 
                  rintro _ w42 ⟨rfl, hk42⟩ 
                  replace H := H.same hk42 
                  clear hk42
                  iterate 2 refine cond_no (beq_eq_false_iff_ne.2 (by assumption)) ?_
                  refine cond_split (fun h45 => ?_) (fun h45 => ?_)
                  · refine cond_yes (by assumption) ?_
                    iterate 10 refine cond_yes (by assumption) ?_
                    exact ⟨(), ⟨by rw [← htest, h45]; cases (d == (c : Int)) <;> rfl, trivial⟩, H⟩
                  · refine cond_no (by assumption) ?_
                    refine cond_no (by assumption) ?_
                    refine hlook _ d _ _ _ (H.get 0 rfl) hvd ?_
                    refine cond_no (by assumption) ?_
                    refine len_sl Try.underlying32 ?_
                    iterate 3 refine cond_no (by assumption) ?_
                    refine hlook _ (c : Int) _ _ _ (H.get 0 rfl) hvc ?_
                    refine cond_no (by assumption) ?_
                    refine len_sl Try.underlying32 ?_
                    iterate 2 refine cond_no (by assumption) ?_
                    refine cond_beq (fun h72 => ?_) (fun h72 => ?_)
                    · refine cond_yes (beq_iff_eq.2 (by assumption)) ?_
                      refine cond_yes (beq_iff_eq.2 (by assumption)) ?_
                      refine cond_no (by assumption) ?_
                      refine cond_yes (beq_iff_eq.2 (by assumption)) ?_
                      refine cond_no (by assumption) ?_
                      exact ⟨(), ⟨by rw [← htest, beq_eq_false_iff_ne.2 h11, h45, decide_eq_true (show (whereM R d).length = (whereM R (c : Int)).length by omega)]; rfl, trivial⟩, H⟩
                    · refine cond_no (beq_eq_false_iff_ne.2 (by assumption)) ?_
                      refine cond_no (beq_eq_false_iff_ne.2 (by assumption)) ?_
                      refine cond_no (by assumption) ?_
                      refine cond_no (beq_eq_false_iff_ne.2 (by assumption)) ?_
                      refine cond_no (by assumption) ?_
                      exact ⟨(), ⟨by rw [← htest, beq_eq_false_iff_ne.2 h11, h45, decide_eq_false (show ¬ (whereM R d).length = (whereM R (c : Int)).length by omega)]; rfl, trivial⟩, H⟩
              · clear H
                rintro ⟨⟩ u w10 H
                replace H : Hp _ _ _ _ _ := H
                refine cond_split (fun hp => ?_) (fun hp => ?_)
                · exact ⟨(), trivial, by simpa using hp, H⟩
                · exact ⟨(), trivial, by simpa using hp, H⟩
            · clear H
              rintro ⟨⟩ u w10 ⟨hp', H⟩
              replace H : Hp _ _ _ _ _ := H
              have hless : lessB n R (c : Int) = true := by
                unfold lessB
                rw [← hany, List.any_eq_true.2 ⟨d, List.mem_of_getElem? hd, hp'⟩, hwc]; rfl
              rw [cols_found hno (by omega) hless]
              refine fieldAddr_by (fa91_0 _) ?_
              refine H.load 2 rfl agg3 rfl ?_
              refine build91a ?_
              refine H.alloc 91 zero91 rfl ?_
              clear H
              intro g12 w11 H
              refine H.storeAll 0 rfl size91 rfl (fun v hv => mc_one v hv) ?_
              clear H
              intro w12 H
              replace H : Hp w (fun _ => False) w12 [blk g12 91 (mc n (.slice none 0 0)), msR kaI 3 r l, blk g2 91 (mv 0 (.slice none 0 0)).cells, blk g1 91 (mc n (.slice (some ⟨g0, o0, none⟩) R.length ca))] [MatR S (.slice (some ⟨g0, o0, none⟩) R.length ca) R] := H
              have H2 := ((H.ownNil 32 1).front 1 rfl).noRows
              clear H
              refine cut_rule (γ := Option Addr × Nat × List Value × (Nat → Prop)) _ rfl (fun _ => [])
                (fun (B, d, hs, S') w' => (∀ g, S' g → w.heap.size ≤ g) ∧ Hp w (fun _ => False) w' [blk g12 91 (mc n (.slice B hs.length d)), own 32 1 (.slice B hs.length d) hs.length hs, msR kaI 3 r l, blk g2 91 (mv 0 (.slice none 0 0)).cells, blk g1 91 (mc n (.slice (some ⟨g0, o0, none⟩) R.length ca))] [rowsR S' hs (dropC R (c : Int)), MatR S (.slice (some ⟨g0, o0, none⟩) R.length ca) R]) ?_ ?_
              · refine fieldAddr_by (fa91_1 _) ?_
                refine H2.load 4 rfl agg89 rfl ?_
                refine len_sl Try.underlying89 ?_
                refine loop_rule (γ := Nat × Option Addr × Nat × List Value × (Nat → Prop)) _ rfl (fun (i, _) => [(106, .int .i64 (i : Int))])
                  (fun (i, B, d, hs, S') w' => (i ≤ R.length ∧ hs.length = i ∧ ∀ g, S' g → w.heap.size ≤ g) ∧ Hp w (fun _ => False) w' [blk g12 91 (mc n (.slice B hs.length d)), own 32 1 (.slice B hs.length d) hs.length hs, msR kaI 3 r l, blk g2 91 (mv 0 (.slice none 0 0)).cells, blk g1 91 (mc n (.slice (some ⟨g0, o0, none⟩) R.length ca))] [rowsR S' hs (dropC (R.take i) (c : Int)), MatR S (.slice (some ⟨g0, o0, none⟩) R.length ca) R])
                  (fun (i, _) => R.length - i) (0, none, 0, [], fun _ => False) ⟨rfl, trivial⟩ ⟨⟨Nat.zero_le _, rfl, fun g h => h.elim⟩, H2⟩ ?_
                clear H2
                rintro ⟨i, B, db, hs, S'⟩ u w13 ⟨⟨hi, hhl, hS'⟩, H⟩
                replace H : Hp _ _ _ _ _ := H
                refine cond_dec (fun h20 => ?_) (fun h20 => ?_)
                · obtain ⟨x, hx⟩ : ∃ x, R[i]? = some x := ⟨_, List.getElem?_eq_getElem (by omega)⟩
                  obtain ⟨Bx, cx, hget, hsx⟩ := hra i x hx
                  have hxl := hlr x (List.mem_of_getElem? hx)
                  refine cut_rule (γ := Option Addr × Nat × List Value × (Nat → Prop)) _ rfl (fun _ => [])
                    (fun (B, d, hs, S') w' => (hs.length = i + 1 ∧ ∀ g, S' g → w.heap.size ≤ g) ∧ Hp w (fun _ => False) w' [blk g12 91 (mc n (.slice B hs.length d)), own 32 1 (.slice B hs.length d) hs.length hs, msR kaI 3 r l, blk g2 91 (mv 0 (.slice none 0 0)).cells, blk g1 91 (mc n (.slice (some ⟨g0, o0, none⟩) R.length ca))] [rowsR S' hs (dropC (R.take (i + 1)) (c : Int)), MatR S (.slice (some ⟨g0, o0, none⟩) R.length ca) R]) ?_ ?_
                  · refine cut_rule (γ := Unit) _ rfl (fun _ => [(14, .slice Bx x.length cx)]) (fun _ w' => Hp.cl H w') ?_ ?_
                    · refine idxAddr_sl Try.underlying89 (s := 1) size32 i rfl (by omega) (o' := o0 + i) (by omega) ?_
                      refine H.loadSl (i := i) ha aggrow _ rfl hget ?_
                      exact ⟨(), ⟨rfl, trivial⟩, H⟩
                    rintro ⟨⟩ u w14 H1
                    replace H : Hp _ _ _ _ _ := H1
                    clear H1
                    refine cut_rule (γ := Unit) _ rfl (fun _ => [(15, .slice none 0 0)]) (fun _ w' => Hp.cl H w') ⟨(), ⟨rfl, trivial⟩, H⟩ ?_
                    rintro ⟨⟩ u w14 H1
                    replace H : Hp _ _ _ _ _ := H1
                    clear H1
                    have H2 := H.ownNil 3 1
                    clear H
                    refine cut_rule (γ := Option Addr × Nat) _ rfl (fun (B2, d2) => [(15, .slice B2 (x.filter fun k => k != (c : Int)).length d2)])
                      (fun (B2, d2) w' => Hp w (fun _ => False) w' [own 3 1 (.slice B2 (x.filter fun k => k != (c : Int)).length d2) (x.filter fun k => k != (c : Int)).length (intsI (x.filter fun k => k != (c : Int))), blk g12 91 (mc n (.slice B hs.length db)), own 32 1 (.slice B hs.length db) hs.length hs, msR kaI 3 r l, blk g2 91 (mv 0 (.slice none 0 0)).cells, blk g1 91 (mc n (.slice (some ⟨g0, o0, none⟩) R.length ca))] [rowsR S' hs (dropC (R.take i) (c : Int)), MatR S (.slice (some ⟨g0, o0, none⟩) R.length ca) R]) ?_ ?_
                    · refine len_sl Try.underlying32 ?_
                      refine loop_rule (γ := Nat × Option Addr × Nat) _ rfl (fun (j, B2, d2) => [(112, .int .i64 (j : Int)), (15, .slice B2 ((x.take j).filter fun k => k != (c : Int)).length d2)])
                        (fun (j, B2, d2) w' => j ≤ x.length ∧ Hp w (fun _ => False) w' [own 3 1 (.slice B2 ((x.take j).filter fun k => k != (c : Int)).length d2) ((x.take j).filter fun k => k != (c : Int)).length (intsI ((x.take j).filter fun k => k != (c : Int))), blk g12 91 (mc n (.slice B hs.length db)), own 32 1 (.slice B hs.length db) hs.length hs, msR kaI 3 r l, blk g2 91 (mv 0 (.slice none 0 0)).cells, blk g1 91 (mc n (.slice (some ⟨g0, o0, none⟩) R.length ca))] [rowsR S' hs (dropC (R.take i) (c : Int)), MatR S (.slice (some ⟨g0, o0, none⟩) R.length ca) R])
                        (fun (j, _) => x.length - j) (0, none, 0) ⟨rfl, rfl, trivial⟩ ⟨Nat.zero_le _, H2⟩ ?_
                      clear H2
                      rintro ⟨j, B2, d2⟩ u w15 ⟨hj, H⟩
                      replace H : Hp _ _ _ _ _ := H
                      refine cond_dec (fun h21 => ?_) (fun h21 => ?_)
                      · obtain ⟨k, hk⟩ : ∃ k, x[j]? = some k := ⟨_, List.getElem?_eq_getElem (by omega)⟩
                        obtain ⟨g3, o3, rfl⟩ := hsx.A (by omega)
                        have hgk : (intsI x)[j]? = some (.int .i64 k) := by rw [intsI, List.getElem?_map, hk]; rfl
                        have hsn := filt_snoc (fun k => k != (c : Int)) hk
                        have hfl := List.length_filter_le (fun k => k != (c : Int)) (x.take j)
                        rw [List.length_take] at hfl
                        refine idxAddr_sl Try.underlying32 (s := 1) size3 j rfl (by omega) (o' := o3 + j) (by omega) ?_
                        refine H.loadSl (i := j) hsx agg3 _ rfl hgk ?_
                        refine cond_split (fun hb => ?_) (fun hb => ?_)
                        · rw [if_pos hb] at hsn
                          refine H.buildOne T32 rfl ?_
                          clear H
                          intro g7 w16 H
                          refine H.appendOne 0 T32 rfl rfl (by omega) (by omega) ?_
                          clear H
                          intro B3 d3 w17 H
                          have e1 : ((x.take (j + 1)).filter fun k => k != (c : Int)).length = ((x.take j).filter fun k => k != (c : Int)).length + 1 := by rw [hsn]; simp
                          have e2 : intsI ((x.take (j + 1)).filter fun k => k != (c : Int)) = intsI ((x.take j).filter fun k => k != (c : Int)) ++ [.int .i64 k] := by rw [hsn, intsI_snoc]
                          exact ⟨(j + 1, B3, d3), by show x.length - (j + 1) < x.length - j; omega, ⟨up (by omega), by rw [e1]; rfl, trivial⟩, by show j + 1 ≤ x.length; omega, by rw [e1, e2]; exact H⟩
                        · rw [if_neg (by rw [hb]; decide), List.append_nil] at hsn
                          exact ⟨(j + 1, B2, d2), by show x.length - (j + 1) < x.length - j; omega, ⟨up (by omega), by rw [hsn]; rfl, trivial⟩, by show j + 1 ≤ x.length; omega, by rw [hsn]; exact H⟩
                      · have e : x.take j = x := List.take_of_length_le (by omega)
                        rw [e] at H
                        exact ⟨(B2, d2), ⟨congrArg (fun l : List Int => Value.slice B2 (l.filter fun k => k != (c : Int)).length d2) e, trivial⟩, H⟩
                    · clear H2
                      rintro ⟨B2, d2⟩ u w15 H
                      replace H : Hp _ _ _ _ _ := H
                      refine fieldAddr_by (fa91_1 _) ?_
                      refine H.load 1 rfl agg89 rfl ?_
                      refine H.buildOne T89 rfl ?_
                      clear H
                      intro g7 w16 H
                      refine H.appendOne 2 T89 rfl rfl (by omega) (by omega) ?_
                      clear H
                      intro B3 d3 w17 H
                      refine fieldAddr_by (fa91_1 _) ?_
                      refine H.store 1 rfl size89 (by show 1 < 2; decide) rfl ?_
                      clear H
                      intro w18 H
                      have e0 : hs.length + 1 = (hs ++ [Value.slice B2 (x.filter fun k => k != (c : Int)).length d2]).length := by simp
                      obtain ⟨S2, H3, hS2⟩ := H.addRow hS'
                      rw [← drop_snoc hx] at H3
                      rw [e0] at H3
                      exact ⟨(B3, d3, _, S2), trivial, ⟨by rw [← e0]; omega, hS2⟩, H3⟩
                  · clear H
                    rintro ⟨B3, d3, hs3, S2⟩ u w14 ⟨⟨hn1, hS2⟩, H⟩
                    exact ⟨(i + 1, B3, d3, hs3, S2), by show R.length - (i + 1) < R.length - i; omega, ⟨up (by omega), trivial⟩, ⟨by show i + 1 ≤ R.length; omega, hn1, hS2⟩, H⟩
                · have e : R.take i = R := List.take_of_length_le (by omega)
                  rw [e] at H
                  exact ⟨(B, db, hs, S'), trivial, hS', H⟩
              · clear H2
                rintro ⟨B, db, hs, S'⟩ u w13 ⟨hS', H⟩
                replace H : Hp _ _ _ _ _ := H
                refine H.loadAll 0 rfl agg91 size91 ?_
                refine H.storeAll 3 rfl size91 rfl (fun v hv => mc_one v hv) ?_
                clear H
                intro w14 H
                refine H.loadAll 3 rfl agg91 size91 ?_
                refine ⟨rfl, ?_⟩
                exact ⟨_, rfl, newM_of H 1 rfl (H.ro 0 rfl) fun g hg => ⟨H.rlt _ (.head _) g hg, .inl (hS' g hg)⟩⟩
          · clear H
            rintro ⟨⟩ u w9 ⟨hp, H⟩
            replace H : Hp _ _ _ _ _ := H
            refine ⟨j + 1, by show y.length - (j + 1) < y.length - j; omega, ⟨up (by omega), trivial⟩, ⟨by show j + 1 ≤ y.length; omega, fun x hx => ?_⟩, H⟩
            rw [List.take_add_one, hd] at hx
            rcases List.mem_append.1 hx with hx | hx
            · exact hnj x hx
            · obtain rfl : x = d := by simpa using hx
              exact hp
        · have : j = y.length := by omega
          subst this
          rw [List.take_length] at hnj
          refine ⟨(), trivial, ?_, H⟩
          unfold lessB
          rw [← hany]
          have : y.any (fun d => progC R (c : Int) d) = false := by
            rw [Bool.eq_false_iff]
            intro hh
            obtain ⟨x, hx, hp⟩ := List.any_eq_true.1 hh
            rw [hnj x hx] at hp; cases hp
          rw [this, Bool.and_false]
      · clear H
        rintro ⟨⟩ u w7 ⟨hlc, H⟩
        replace H : Hp _ _ _ _ _ := H
        exact ⟨c + 1, by show n - (c + 1) < n - c; omega, ⟨up (by omega), trivial⟩, ⟨by show c + 1 ≤ n; omega, lt_snoc hno hlc⟩, H⟩
    · have : c = n := by omega
      subst this
      exact ⟨(), trivial, hno, H⟩
  · clear H
    rintro ⟨⟩ u w6 ⟨hno, H⟩
    replace H : Hp _ _ _ _ _ := H
    rw [cols_none hno]
    refine H.loadAll 2 rfl agg91 size91 ?_
    refine H.storeAll 1 rfl size91 rfl (fun v hv => mc_one v hv) ?_
    clear H
    intro w7 H
    refine H.loadAll 1 rfl agg91 size91 ?_
    refine ⟨rfl, ?_⟩
    exact ⟨_, rfl, H.outM fun g hg => .inr hg⟩
end Go.Proofs.Ytjebpngdinbckaa
end

section
/- Coverings: Reduce. -/
namespace Go.Proofs.Ytjebpngdinbckaa
open Go.Dk
attribute [local irreducible] IntKind.wrap

section
variable {w0 w w' : World} {F : Nat → Prop} {L M L2 M2 : List Res} {r r' : Res}
/-- What a call holds is laid to what there is. -/
theorem _root_.Go.Dk.Hp.merge (H : Hp w0 F w L M) (H2 : Hp w (fun _ => False) w' L2 M2) (hM : ∀ r ∈ M2, ∀ g, r.foot g → w.heap.size ≤ g ∨ ∃ s ∈ M, s.foot g) : Hp w0 F w' (L2 ++ L) (M2 ++ M) := by
  have H' := H.same H2.keeps
  have hnew2 : ∀ r ∈ L2, ∀ g, r.foot g → w.heap.size ≤ g := fun r hr g hg => (H2.new r hr g hg).resolve_right id
  refine ⟨H'.keeps, ?_, ?_, ?_, ?_, ?_, ?_, ?_⟩
  · intro r hr
    rcases List.mem_append.1 hr with hr | hr
    · exact H2.ok r hr
    · exact H'.ok r hr
  · intro r hr
    rcases List.mem_append.1 hr with hr | hr
    · exact H2.lt r hr
    · exact H'.lt r hr
  · intro r hr g hg
    rcases List.mem_append.1 hr with hr | hr
    · exact .inl (Nat.le_trans H.keeps.size (hnew2 r hr g hg))
    · exact H.new r hr g hg
  · refine List.pairwise_append.2 ⟨H2.dis, H.dis, fun r hr s hs g h1 h2 => ?_⟩
    have := hnew2 r hr g h1
    have := H.lt s hs g h2
    omega
  · intro r hr
    rcases List.mem_append.1 hr with hr | hr
    · exact H2.rok r hr
    · exact H'.rok r hr
  · intro r hr
    rcases List.mem_append.1 hr with hr | hr
    · exact H2.rlt r hr
    · exact H'.rlt r hr
  · intro r hr s hs g h1 h2
    rcases List.mem_append.1 hr with hr | hr
    · rcases List.mem_append.1 hs with hs | hs
      · exact H2.rdis r hr s hs g h1 h2
      · rcases hM r hr g h1 with h3 | ⟨q, hq, h3⟩
        · have := H.lt s hs g h2
          omega
        · exact H.rdis q hq s hs g h3 h2
    · rcases List.mem_append.1 hs with hs | hs
      · have := hnew2 s hs g h2
        have := H.rlt r hr g h1
        omega
      · exact H.rdis r hr s hs g h1 h2
/-- A callee turns one part, and hands back something that is read. -/
theorem _root_.Go.Dk.Hp.turnAdd (H : Hp w0 F w L M) (n : Nat) (hn : L[n]? = some r) (h : Turn w w' r r') (s : Res) (hs : s.ok w') (hf : ∀ g, s.foot g → g < w'.heap.size ∧ (w.heap.size ≤ g ∨ ∃ q ∈ M, q.foot g)) (hd : ∀ g, s.foot g → ¬ r'.foot g) :
    Hp w0 F w' (L.set n r') (s :: M) := by
  have H' := H.turnBy n hn h
  refine ⟨H'.keeps, H'.ok, H'.lt, H'.new, H'.dis, ?_, ?_, ?_⟩
  · intro q hq
    rcases List.mem_cons.1 hq with rfl | hq
    · exact hs
    · exact H'.rok q hq
  · intro q hq g hg
    rcases List.mem_cons.1 hq with rfl | hq
    · exact (hf g hg).1
    · exact H'.rlt q hq g hg
  · intro q hq t ht g h1 h2
    rcases List.mem_cons.1 hq with rfl | hq
    · rcases List.mem_or_eq_of_mem_set ht with ht | rfl
      · obtain ⟨j, hj, hje⟩ := List.getElem_of_mem ht
        rcases (hf g h1).2 with h3 | ⟨q2, hq2, h3⟩
        · have := H.lt t ht g h2
          omega
        · exact H.rdis q2 hq2 t ht g h3 h2
      · exact hd g h1 h2
    · exact H'.rdis q hq t ht g h1 h2
end
def vbB (b : Bool) : Value := .bool b
theorem W210 : MapW Try.prog 210 3 4 kaI vbB (.bool false) := ⟨Try.underlying210, KL3, kaI_inj, by kernel_rfl⟩
theorem agg210 : aggT Try.prog 210 = some false := by kernel_rfl
/-- The covering that is worked on, and the columns that were taken. -/
def stP (g1 r : Nat) (cols : Int) (v : Value) (l : List (Int × Bool)) : List Res := [blk g1 91 (mc cols v), mapR kaI vbB r l]
def stR (g1 r : Nat) (cols : Int) (v : Value) (l : List (Int × Bool)) : Res := seps (stP g1 r cols v l)
/-- What a step's closure does. -/
structure StepC (S : Nat → Prop) (w w' : World) (g1 r : Nat) (cols : Int) (v v' : Value) (l l' : List (Int × Bool)) (R' : Mat) (S' : Nat → Prop) : Prop where
  turn : Turn w w' (stR g1 r cols v l) (stR g1 r cols v' l')
  mat : matOk S' v' R' w'
  foot : ∀ g, S' g → g < w'.heap.size ∧ (w.heap.size ≤ g ∨ S g)
  dis : ∀ g, S' g → ¬ (stR g1 r cols v' l').foot g
theorem mc_of {S : Nat → Prop} {v : Value} {R : Mat} {w : World} {cols : Int} (h : matOk S v R w) : ∀ u ∈ (mc cols v).toList, u.oneCell' = true := by
  obtain ⟨A, c, rfl⟩ := h.form
  exact fun u hu => mc_one u hu
theorem stStart {S : Nat → Prop} {w : World} {g1 r : Nat} {cols : Int} {v : Value} {l : List (Int × Bool)} {R : Mat} {M : List Res} (h : (stR g1 r cols v l).ok w) (hm : matOk S v R w) (hS : ∀ g, S g → g < w.heap.size) (hd : ∀ g, S g → ¬ (stR g1 r cols v l).foot g)
    (hM : ∀ q ∈ M, q.ok w ∧ ∀ g, q.foot g → g < w.heap.size ∧ ¬ (stR g1 r cols v l).foot g) : Hp w (stR g1 r cols v l).foot w [blk g1 91 (mc cols v), mapR kaI vbB r l] (MatR S v R :: M) := by
  have hlt : ∀ g, (stR g1 r cols v l).foot g → g < w.heap.size := fun g ⟨q, hq, hg⟩ => h.2.1 q hq g hg
  have H := Hp.own1M (M := MatR S v R :: M) h hlt (fun q hq => by
    rcases List.mem_cons.1 hq with rfl | hq
    · exact hm
    · exact (hM q hq).1) (fun q hq g hg => by
    rcases List.mem_cons.1 hq with rfl | hq
    · exact hS g hg
    · exact ((hM q hq).2 g hg).1) (fun q hq g hg => by
    rcases List.mem_cons.1 hq with rfl | hq
    · exact hd g hg
    · exact ((hM q hq).2 g hg).2)
  have H2 := Hp.split (Ls := stP g1 r cols v l) (L := []) H
  simpa [stP] using H2
theorem stEnd {S S' : Nat → Prop} {w w' : World} {g1 r : Nat} {cols : Int} {v v' : Value} {l l' : List (Int × Bool)} {R' : Mat} {M : List Res} (H : Hp w (stR g1 r cols v l).foot w' [blk g1 91 (mc cols v'), mapR kaI vbB r l'] (MatR S' v' R' :: M))
    (hS' : ∀ g, S' g → w.heap.size ≤ g ∨ S g) : StepC S w w' g1 r cols v v' l l' R' S' := by
  have H2 : Hp w (stR g1 r cols v l).foot w' [stR g1 r cols v' l'] (MatR S' v' R' :: M) := Hp.join (Ls := stP g1 r cols v' l') (L := []) (by simpa [stP] using H)
  exact ⟨H2.outTurn, H2.ro 0 rfl, fun g hg => ⟨H2.rlt _ (.head _) g hg, hS' g hg⟩, fun g hg => H2.rdis _ (.head _) _ (.head _) g hg⟩
def takeL (l : List (Int × Bool)) : Option (Mat × Int) → List (Int × Bool)
  | some (_, k) => aset l k true
  | none => l
theorem ent179 : enters Try.prog 179 = true := by kernel_rfl
theorem c179 (cols : Int) (R : Mat) (v : Value) (S : Nat → Prop) (g1 g5 r : Nat) (l : List (Int × Bool)) (w : World) (hl : R.length ≤ 1000000000) (hlr : ∀ r ∈ R, r.length ≤ 1000000000) (h : (stR g1 r cols v l).ok w)
    (hm : matOk S v R w) (hS : ∀ g, S g → g < w.heap.size) (hd : ∀ g, S g → ¬ (stR g1 r cols v l).foot g) (h5 : (blk g5 210 #[.map (some r)]).ok w) (h5d : ¬ (stR g1 r cols v l).foot g5) :
    Fun Try.prog 179 [.pointer (some ⟨g1, 0, none⟩), .pointer (some ⟨g5, 0, none⟩)] w fun o w' => ∃ v' S', o = .bool (takeO cols R).isSome ∧ StepC S w w' g1 r cols v v' l (takeL l (takeO cols R)) (((takeO cols R).map (·.1)).getD R) S' := by
  refine fun_of_W (N := 17) Try.func179 ent179 rfl rfl rfl (by simp) ?_
  have H := stStart (M := [blk g5 210 #[.map (some r)]]) h hm hS hd (fun q hq => by
    rw [List.mem_singleton] at hq; subst hq
    exact ⟨h5, fun g hg => by subst hg; exact ⟨blk_lt h5, h5d⟩⟩)
  obtain ⟨A0, c0, rfl⟩ := hm.form
  refine H.loadAll 0 rfl agg91 size91 ?_
  refine call_fn (c81 cols R _ S _ hl hlr hm hS) ?_
  rintro _ w1 ⟨v', rfl, hn⟩
  obtain ⟨S', H2, hS'⟩ := H.addM (.head _) hn
  clear H
  replace H := H2
  clear H2
  obtain ⟨A1, c1, rfl⟩ := (H.ro 0 rfl).form
  refine H.alloc 91 zero91 rfl ?_
  clear H
  intro g3 w2 H
  refine H.storeAll 0 rfl size91 rfl (fun v hv => mc_one v hv) ?_
  clear H
  intro w3 H
  refine H.loadAll 0 rfl agg91 size91 ?_
  refine H.storeAll 1 rfl size91 rfl (fun v hv => mc_one v hv) ?_
  clear H
  intro w4 H
  have H3 := H.forget
  clear H
  cases ht : takeO cols R with
  | none =>
    rw [ht] at H3
    refine cond_no rfl ?_
    exact ⟨_, S', rfl, stEnd H3 hS'⟩
  | some p =>
    obtain ⟨R', k⟩ := p
    rw [ht] at H3
    refine cond_yes rfl ?_
    refine ld_blk (H3.ro 2 rfl) agg210 rfl ?_
    refine H3.mapSet 1 rfl W210 k true ?_
    clear H3
    intro w5 H
    exact ⟨_, S', rfl, stEnd H hS'⟩
theorem ent180 : enters Try.prog 180 = true := by kernel_rfl
theorem c180 (cols : Int) (R : Mat) (v : Value) (S : Nat → Prop) (g1 r : Nat) (l : List (Int × Bool)) (w : World) (hl : R.length ≤ 1000000000) (hlr : ∀ r ∈ R, r.length ≤ 1000000000) (h : (stR g1 r cols v l).ok w)
    (hm : matOk S v R w) (hS : ∀ g, S g → g < w.heap.size) (hd : ∀ g, S g → ¬ (stR g1 r cols v l).foot g) :
    Fun Try.prog 180 [.pointer (some ⟨g1, 0, none⟩)] w fun o w' => ∃ v' S', o = .bool (rowsO cols R).isSome ∧ StepC S w w' g1 r cols v v' l l ((rowsO cols R).getD R) S' := by
  refine fun_of_W (N := 11) Try.func180 ent180 rfl rfl rfl (by simp) ?_
  have H := stStart (M := []) h hm hS hd (by simp)
  obtain ⟨A0, c0, rfl⟩ := hm.form
  refine H.loadAll 0 rfl agg91 size91 ?_
  refine call_fn (c82 cols R _ S _ hl hlr hm hS) ?_
  rintro _ w1 ⟨v', rfl, hn⟩
  obtain ⟨S', H2, hS'⟩ := H.addM (.head _) hn
  clear H
  replace H := H2
  clear H2
  obtain ⟨A1, c1, rfl⟩ := (H.ro 0 rfl).form
  refine H.alloc 91 zero91 rfl ?_
  clear H
  intro g3 w2 H
  refine H.storeAll 0 rfl size91 rfl (fun v hv => mc_one v hv) ?_
  clear H
  intro w3 H
  refine H.loadAll 0 rfl agg91 size91 ?_
  refine H.storeAll 1 rfl size91 rfl (fun v hv => mc_one v hv) ?_
  clear H
  intro w4 H
  exact ⟨_, S', rfl, stEnd H.forget hS'⟩
theorem ent181 : enters Try.prog 181 = true := by kernel_rfl
theorem c181 (cols : Int) (R : Mat) (v : Value) (S : Nat → Prop) (g1 r : Nat) (l : List (Int × Bool)) (w : World) (hl : R.length ≤ 1000000000) (hlr : ∀ r ∈ R, r.length ≤ 1000000000) (h : (stR g1 r cols v l).ok w)
    (hm : matOk S v R w) (hS : ∀ g, S g → g < w.heap.size) (hd : ∀ g, S g → ¬ (stR g1 r cols v l).foot g) :
    Fun Try.prog 181 [.pointer (some ⟨g1, 0, none⟩)] w fun o w' => ∃ v' S', o = .bool (colsO cols R).isSome ∧ StepC S w w' g1 r cols v v' l l ((colsO cols R).getD R) S' := by
  refine fun_of_W (N := 11) Try.func181 ent181 rfl rfl rfl (by simp) ?_
  have H := stStart (M := []) h hm hS hd (by simp)
  obtain ⟨A0, c0, rfl⟩ := hm.form
  refine H.loadAll 0 rfl agg91 size91 ?_
  refine call_fn (c83 cols R _ S _ hl hlr hm hS) ?_
  rintro _ w1 ⟨v', rfl, hn⟩
  obtain ⟨S', H2, hS'⟩ := H.addM (.head _) hn
  clear H
  replace H := H2
  clear H2
  obtain ⟨A1, c1, rfl⟩ := (H.ro 0 rfl).form
  refine H.alloc 91 zero91 rfl ?_
  clear H
  intro g3 w2 H
  refine H.storeAll 0 rfl size91 rfl (fun v hv => mc_one v hv) ?_
  clear H
  intro w3 H
  refine H.loadAll 0 rfl agg91 size91 ?_
  refine H.storeAll 1 rfl size91 rfl (fun v hv => mc_one v hv) ?_
  clear H
  intro w4 H
  exact ⟨_, S', rfl, stEnd H.forget hS'⟩
end Go.Proofs.Ytjebpngdinbckaa
end

section
/- Coverings: Reduce, the whole. -/
namespace Go.Proofs.Ytjebpngdinbckaa
open Go.Dk
attribute [local irreducible] IntKind.wrap

theorem _root_.Go.Dk.Hp.only {w0 w : World} {F : Nat → Prop} {L M : List Res} {r : Res} (H : Hp w0 F w (r :: L) M) : Hp w0 F w [r] M := by
  have hm : ∀ s, s ∈ [r] → s ∈ r :: L := fun s hs => by rw [List.mem_singleton] at hs; subst hs; exact .head _
  exact ⟨H.keeps, fun s hs => H.ok s (hm s hs), fun s hs => H.lt s (hm s hs), fun s hs => H.new s (hm s hs), List.pairwise_singleton _ _, H.rok, H.rlt, fun q hq s hs => H.rdis q hq s (hm s hs)⟩
theorem _root_.Go.Dk.Hp.onlyRO {w0 w : World} {F : Nat → Prop} {L M : List Res} {r : Res} (H : Hp w0 F w L (r :: M)) : Hp w0 F w L [r] := H.weakenRO fun q hq => by rw [List.mem_singleton] at hq; subst hq; exact .head _
theorem T211 : SlT Try.prog 211 37 .nilFunc 1 8 := ⟨Try.underlying211, by kernel_rfl, rfl, by decide⟩
theorem agg37 : aggT Try.prog 37 = some false := by kernel_rfl
theorem size37 : sizeT Try.prog 37 = some 1 := by kernel_rfl
theorem zero210 : zeroT Try.prog 210 = some (.map none) := by kernel_rfl
theorem size210 : sizeT Try.prog 210 = some 1 := by kernel_rfl
theorem build91z {w : World} {kk : Value → World → Prop} (h : kk (mv 0 (.slice none 0 0)) w) : buildK Try.prog 91 [] w kk := build_by (fun w => by kernel_rfl) h
/-- What Reduce answers. -/
def redT (cols : Int) (R : Mat) : List Int := if rightB cols R then risen cols.toNat (endS cols.toNat (R, [])).2 else []
def redR (cols : Int) (R : Mat) : Mat := if rightB cols R then (endS cols.toNat (R, [])).1 else []
def redC (cols : Int) (R : Mat) : Int := if rightB cols R then cols else 0
def redE (cols : Int) (R : Mat) : Int := if rightB cols R then 0 else 1
def lOk (l : List (Int × Bool)) (T : List Int) : Prop := ∀ c, aget l c = if c ∈ T then some true else none
theorem lOk.add {l : List (Int × Bool)} {T : List Int} (h : lOk l T) (k : Int) : lOk (aset l k true) (T ++ [k]) := fun c => by
  rw [aget_aset, h c]
  by_cases hc : c = k
  · subst hc; simp
  · simp [hc]
theorem matNil (S : Nat → Prop) (w : World) : matOk S (.slice none 0 0) [] w := ⟨none, 0, [], rfl, ⟨rfl, none, 0, rfl, Nat.le_refl _, .inl rfl⟩, fun i u ks h => by simp at h⟩
theorem run_succ {cols : Nat} {s s' : Mat × List Int} {k : Nat} (h : stepS cols (runS cols s k) = some s') : runS cols s (k + 1) = s' := by
  show (stepS cols (runS cols s k)).getD (runS cols s k) = s'
  rw [h]; rfl
def clos (g1 g5 : Nat) : Array Value := #[.func (.func 179) #[] #[.pointer (some ⟨g1, 0, none⟩), .pointer (some ⟨g5, 0, none⟩)], .func (.func 180) #[] #[.pointer (some ⟨g1, 0, none⟩)], .func (.func 181) #[] #[.pointer (some ⟨g1, 0, none⟩)]]
def redL (g1 r g7 g5 g3 : Nat) (n : Int) (v : Value) (l : List (Int × Bool)) : List Res := [blk g1 91 (mc n v), mapR kaI vbB r l, blk g7 37 (clos g1 g5), blk g5 210 #[.map (some r)], blk g3 91 (mv 0 (.slice none 0 0)).cells]
theorem ent89 : enters Try.prog 89 = true := by kernel_rfl
theorem c89 (cols : Int) (R : Mat) (v1 : Value) (S : Nat → Prop) (w : World) (hl : R.length ≤ 1000000000) (hlr : ∀ r ∈ R, r.length ≤ 1000000000) (h1 : matOk S v1 R w) (hS : ∀ g, S g → g < w.heap.size) :
    Fun Try.prog 89 [mv cols v1] w fun o w' => ∃ B d v' S', o = .tuple #[.slice B (redT cols R).length d, mv (redC cols R) v', .int .i64 (redE cols R)] ∧
      Hp w (fun _ => False) w' [own 3 1 (.slice B (redT cols R).length d) (redT cols R).length (intsI (redT cols R))] [MatR S' v' (redR cols R)] ∧ ∀ g, S' g → w.heap.size ≤ g ∨ S g := by
  refine fun_of_W (N := 44) Try.func89 ent89 rfl rfl rfl (by simp) ?_
  have H := startM h1 hS
  have h1' : MatAt w v1 R := MatR.mono h1 hS
  obtain ⟨A, ca, rfl⟩ := h1.form
  refine H.box 91 (mv _ _) (cs := mc _ _) rfl ?_
  clear H
  intro g1 w1 H
  refine H.alloc 91 zero91 rfl ?_
  clear H
  intro g3 w2 H
  refine H.loadAll 1 rfl agg91 size91 ?_
  refine call_fn (c171 cols R _ _ hl hlr (h1'.same H.keeps)) ?_
  rintro _ w3 ⟨rfl, hk⟩
  replace H := H.same hk
  clear hk
  refine cond_split (fun hr => ?_) (fun hr => ?_)
  · have hno : rightB cols R = false := by simpa using hr
    have e1 : redT cols R = [] := by unfold redT; rw [hno]; rfl
    have e2 : redR cols R = [] := by unfold redR; rw [hno]; rfl
    have e3 : redC cols R = 0 := by unfold redC; rw [hno]; rfl
    have e4 : redE cols R = 1 := by unfold redE; rw [hno]; rfl
    rw [e1, e2, e3, e4]
    refine build91z ?_
    refine H.storeAll 0 rfl size91 rfl (fun v hv => mc_one v hv) ?_
    clear H
    intro w4 H
    refine H.loadAll 0 rfl agg91 size91 ?_
    refine ⟨rfl, ?_⟩
    have H2 := ((H.addRO (Keeps.refl _ _) (MatR (fun _ => False) (.slice none 0 0) []) (matNil _ _) fun g hg => hg.elim).weakenRO (M' := [MatR (fun _ => False) (.slice none 0 0) []]) (by simp)).ownNil 3 1
    exact ⟨none, 0, _, fun _ => False, rfl, H2.only, fun g hg => hg.elim⟩
  have hr' : rightB cols R = true := by simpa using hr
  have hright := rightB_iff.1 hr'
  obtain ⟨n, rfl⟩ : ∃ n : Nat, cols = n := ⟨cols.toNat, by have := hright.ge; omega⟩
  have hn4 : n ≤ 4000 := by have := hright.le; omega
  have e1 : redT n R = risen n (endS n (R, [])).2 := by unfold redT; rw [hr', Int.toNat_natCast]; rfl
  have e2 : redR n R = (endS n (R, [])).1 := by unfold redR; rw [hr', Int.toNat_natCast]; rfl
  have e3 : redC n R = n := by unfold redC; rw [hr']; rfl
  have e4 : redE n R = 0 := by unfold redE; rw [hr']; rfl
  rw [e1, e2, e3, e4]
  clear e1 e2 e3 e4
  refine H.makeMap kaI vbB ?_
  clear H
  intro r w4 H
  refine H.alloc 210 zero210 rfl ?_
  clear H
  intro g5 w5 H
  refine H.store 0 rfl size210 (by show 0 < 1; decide) rfl ?_
  clear H
  intro w6 H
  replace H := (H.front 1 rfl).front 3 rfl
  replace H : Hp w (fun _ => False) w6 [blk g1 91 (mc n (.slice A R.length ca)), mapR kaI vbB r [], blk g5 210 #[.map (some r)], blk g3 91 (mv 0 (.slice none 0 0)).cells] [MatR S (.slice A R.length ca) R] := H
  refine mkFunc ?_
  refine mkFunc ?_
  refine mkFunc ?_
  refine H.buildSl T211 (cs := clos g1 g5) (by decide) (by decide) (by kernel_rfl) ?_
  clear H
  intro g7 w7 H
  replace H := (H.front 2 rfl).front 2 rfl
  replace H : Hp w (fun _ => False) w7 (redL g1 r g7 g5 g3 n (.slice A R.length ca) []) [MatR S (.slice A R.length ca) R] := H
  have hrun : ∀ k, RightM n (runS n (R, []) k).1 ∧ (runS n (R, []) k).1.length ≤ 1000000000 ∧ ∀ x ∈ (runS n (R, []) k).1, x.length ≤ 1000000000 := fun k => by
    have h1 := (run_inv hright k).right
    have h2 : (runS n (R, []) k).1.length ≤ R.length := run_len (s := (R, [])) k
    exact ⟨h1, by omega, fun x hx => by have := row_len h1 hx; omega⟩
  refine cut_rule (γ := Unit) _ rfl (fun _ => []) (fun _ w' => Hp.cl H w') ⟨(), trivial, H⟩ ?_
  rintro ⟨⟩ u w8 H1
  replace H : Hp _ _ _ _ _ := H1
  clear H1
  refine cut_rule (γ := Value × (Nat → Prop) × List (Int × Bool)) _ rfl (fun _ => [])
    (fun (v, S', l) w' => (lOk l (endS n (R, [])).2 ∧ ∀ g, S' g → w.heap.size ≤ g ∨ S g) ∧ Hp w (fun _ => False) w' (redL g1 r g7 g5 g3 n v l) [MatR S' v (endS n (R, [])).1]) ?_ ?_
  · refine loop_rule (γ := Nat × Value × (Nat → Prop) × List (Int × Bool)) _ rfl (fun _ => [])
      (fun (k, v, S', l) w' => (lOk l (runS n (R, []) k).2 ∧ ∀ g, S' g → w.heap.size ≤ g ∨ S g) ∧ Hp w (fun _ => False) w' (redL g1 r g7 g5 g3 n v l) [MatR S' v (runS n (R, []) k).1])
      (fun (k, _) => massM (runS n (R, []) k).1) (0, .slice A R.length ca, S, []) trivial ⟨⟨fun c => rfl, fun g hg => .inr hg⟩, H⟩ ?_
    clear H
    rintro ⟨k, v, S', l⟩ u w8 ⟨⟨hlk, hS'⟩, H⟩
    replace H : Hp _ _ _ _ _ := H
    obtain ⟨hr1, hl1, hlr1⟩ := hrun k
    have hrb := rightB_iff.2 hr1
    refine cut_rule (γ := Value × (Nat → Prop)) _ rfl (fun _ => [])
      (fun (v, S') w' => (stepS n (runS n (R, []) k) = none ∧ ∀ g, S' g → w.heap.size ≤ g ∨ S g) ∧ Hp w (fun _ => False) w' (redL g1 r g7 g5 g3 n v l) [MatR S' v (runS n (R, []) k).1]) ?_ ?_
    · refine len_sl Try.underlying211 ?_
      refine loop_rule (γ := Nat × Value × (Nat → Prop)) _ rfl (fun (j, _) => [(22, .int .i64 (j : Int))])
        (fun (j, v, S') w' => (j ≤ 3 ∧ (0 < j → takeS (runS n (R, []) k).1 = none) ∧ (1 < j → rowsS (runS n (R, []) k).1 = none) ∧ (2 < j → colsS n (runS n (R, []) k).1 = none) ∧ ∀ g, S' g → w.heap.size ≤ g ∨ S g) ∧
          Hp w (fun _ => False) w' (redL g1 r g7 g5 g3 n v l) [MatR S' v (runS n (R, []) k).1])
        (fun (j, _) => 3 - j) (0, v, S') ⟨rfl, trivial⟩ ⟨⟨by decide, fun h => by omega, fun h => by omega, fun h => by omega, hS'⟩, H⟩ ?_
      clear H hS'
      rintro ⟨j, v, S'⟩ u w9 ⟨⟨hj, hj0, hj1, hj2, hS'⟩, H⟩
      replace H : Hp w (fun _ => False) w9 (redL g1 r g7 g5 g3 n v l) [MatR S' v (runS n (R, []) k).1] := H
      refine cond_dec (fun h7 => ?_) (fun h7 => ?_)
      · have HJ : Hp w (fun _ => False) w9 [stR g1 r n v l, blk g7 37 (clos g1 g5), blk g5 210 #[.map (some r)], blk g3 91 (mv 0 (.slice none 0 0)).cells] [MatR S' v (runS n (R, []) k).1] := Hp.join (Ls := stP g1 r n v l) H
        clear H
        have hj3 : j = 0 ∨ j = 1 ∨ j = 2 := by omega
        rcases hj3 with rfl | rfl | rfl
        · refine idxAddr_sl Try.underlying211 (s := 1) size37 0 rfl (by omega) (o' := 0) (by omega) ?_
          refine HJ.load 1 rfl agg37 rfl ?_
          refine call_fnC (c179 n _ v S' g1 g5 r l _ hl1 hlr1 (HJ.get 0 rfl) (HJ.ro 0 rfl) (HJ.rlt _ (.head _)) (fun g hg => HJ.rdis _ (.head _) _ (.head _) g hg) (HJ.get 2 rfl) (fun hg => (List.pairwise_cons.1 HJ.dis).1 _ (.tail _ (.head _)) g5 hg rfl)) ?_
          rintro _ w10 ⟨v', S2, rfl, st⟩
          have H2 := (HJ.turnAdd 0 rfl st.turn (MatR S2 v' _) st.mat (fun g hg => ⟨(st.foot g hg).1, (st.foot g hg).2.imp id fun h => ⟨_, .head _, h⟩⟩) st.dis).onlyRO
          have hS2 : ∀ g, S2 g → w.heap.size ≤ g ∨ S g := fun g hg => by
            rcases (st.foot g hg).2 with h | h
            · exact .inl (Nat.le_trans HJ.keeps.size h)
            · exact hS' g h
          replace H2 : Hp w (fun _ => False) w10 (redL g1 r g7 g5 g3 n v' _) _ := Hp.split (Ls := stP g1 r n v' _) H2
          have hto : takeO n (runS n (R, []) k).1 = takeS (runS n (R, []) k).1 := by unfold takeO; rw [if_pos hrb]
          rw [hto] at H2 ⊢
          cases ht : takeS (runS n (R, []) k).1 with
          | none =>
            rw [ht] at H2
            refine cond_no rfl ?_
            exact ⟨(1, v', S2), by show 3 - 1 < 3 - 0; decide, ⟨up (i := 0) (by omega), trivial⟩, ⟨by decide, fun _ => rfl, fun h => by omega, fun h => by omega, hS2⟩, H2⟩
          | some p =>
            obtain ⟨R', c⟩ := p
            rw [ht] at H2
            have hst : stepS n (runS n (R, []) k) = some (R', (runS n (R, []) k).2 ++ [c]) := by unfold stepS; rw [ht]
            have hm := step_mass hst
            have hsu := run_succ hst
            refine cond_yes rfl ?_
            refine ⟨(k + 1, v', S2, aset l c true), ?_, trivial, ⟨?_, hS2⟩, ?_⟩
            · show massM (runS n (R, []) (k + 1)).1 < massM (runS n (R, []) k).1
              rw [hsu]; exact hm
            · rw [hsu]; exact hlk.add c
            · rw [hsu]; exact H2
        · have ht := hj0 (by decide)
          refine idxAddr_sl Try.underlying211 (s := 1) size37 1 rfl (by omega) (o' := 1) (by omega) ?_
          refine HJ.load 1 rfl agg37 rfl ?_
          refine call_fnC (c180 n _ v S' g1 r l _ hl1 hlr1 (HJ.get 0 rfl) (HJ.ro 0 rfl) (HJ.rlt _ (.head _)) (fun g hg => HJ.rdis _ (.head _) _ (.head _) g hg)) ?_
          rintro _ w10 ⟨v', S2, rfl, st⟩
          have H2 := (HJ.turnAdd 0 rfl st.turn (MatR S2 v' _) st.mat (fun g hg => ⟨(st.foot g hg).1, (st.foot g hg).2.imp id fun h => ⟨_, .head _, h⟩⟩) st.dis).onlyRO
          have hS2 : ∀ g, S2 g → w.heap.size ≤ g ∨ S g := fun g hg => by
            rcases (st.foot g hg).2 with h | h
            · exact .inl (Nat.le_trans HJ.keeps.size h)
            · exact hS' g h
          replace H2 : Hp w (fun _ => False) w10 (redL g1 r g7 g5 g3 n v' _) _ := Hp.split (Ls := stP g1 r n v' _) H2
          have hto : rowsO n (runS n (R, []) k).1 = rowsS (runS n (R, []) k).1 := by unfold rowsO; rw [if_pos hrb]
          rw [hto] at H2 ⊢
          cases hro : rowsS (runS n (R, []) k).1 with
          | none =>
            rw [hro] at H2
            refine cond_no rfl ?_
            exact ⟨(2, v', S2), by show 3 - 2 < 3 - 1; decide, ⟨up (i := 1) (by omega), trivial⟩, ⟨by decide, fun _ => ht, fun _ => rfl, fun h => by omega, hS2⟩, H2⟩
          | some R' =>
            rw [hro] at H2
            have hst : stepS n (runS n (R, []) k) = some (R', (runS n (R, []) k).2) := by unfold stepS; rw [ht, hro]
            have hm := step_mass hst
            have hsu := run_succ hst
            refine cond_yes rfl ?_
            refine ⟨(k + 1, v', S2, l), ?_, trivial, ⟨?_, hS2⟩, ?_⟩
            · show massM (runS n (R, []) (k + 1)).1 < massM (runS n (R, []) k).1
              rw [hsu]; exact hm
            · rw [hsu]; exact hlk
            · rw [hsu]; exact H2
        · have ht := hj0 (by decide)
          have hro := hj1 (by decide)
          refine idxAddr_sl Try.underlying211 (s := 1) size37 2 rfl (by omega) (o' := 2) (by omega) ?_
          refine HJ.load 1 rfl agg37 rfl ?_
          refine call_fnC (c181 n _ v S' g1 r l _ hl1 hlr1 (HJ.get 0 rfl) (HJ.ro 0 rfl) (HJ.rlt _ (.head _)) (fun g hg => HJ.rdis _ (.head _) _ (.head _) g hg)) ?_
          rintro _ w10 ⟨v', S2, rfl, st⟩
          have H2 := (HJ.turnAdd 0 rfl st.turn (MatR S2 v' _) st.mat (fun g hg => ⟨(st.foot g hg).1, (st.foot g hg).2.imp id fun h => ⟨_, .head _, h⟩⟩) st.dis).onlyRO
          have hS2 : ∀ g, S2 g → w.heap.size ≤ g ∨ S g := fun g hg => by
            rcases (st.foot g hg).2 with h | h
            · exact .inl (Nat.le_trans HJ.keeps.size h)
            · exact hS' g h
          replace H2 : Hp w (fun _ => False) w10 (redL g1 r g7 g5 g3 n v' _) _ := Hp.split (Ls := stP g1 r n v' _) H2
          have hto : colsO n (runS n (R, []) k).1 = colsS n (runS n (R, []) k).1 := by unfold colsO; rw [if_pos hrb, Int.toNat_natCast]
          rw [hto] at H2 ⊢
          cases hco : colsS n (runS n (R, []) k).1 with
          | none =>
            rw [hco] at H2
            refine cond_no rfl ?_
            exact ⟨(3, v', S2), by show 3 - 3 < 3 - 2; decide, ⟨up (i := 2) (by omega), trivial⟩, ⟨by decide, fun _ => ht, fun _ => hro, fun _ => rfl, hS2⟩, H2⟩
          | some R' =>
            rw [hco] at H2
            have hst : stepS n (runS n (R, []) k) = some (R', (runS n (R, []) k).2) := by unfold stepS; rw [ht, hro, hco]; rfl
            have hm := step_mass hst
            have hsu := run_succ hst
            refine cond_yes rfl ?_
            refine ⟨(k + 1, v', S2, l), ?_, trivial, ⟨?_, hS2⟩, ?_⟩
            · show massM (runS n (R, []) (k + 1)).1 < massM (runS n (R, []) k).1
              rw [hsu]; exact hm
            · rw [hsu]; exact hlk
            · rw [hsu]; exact H2
      · have : j = 3 := by omega
        subst this
        refine ⟨(v, S'), trivial, ⟨?_, hS'⟩, H⟩
        unfold stepS
        rw [hj0 (by decide), hj1 (by decide), hj2 (by decide)]; rfl
    · clear H hS'
      rintro ⟨v, S'⟩ u w9 ⟨⟨hst, hS'⟩, H⟩
      replace H : Hp _ _ _ _ _ := H
      have he := end_eq hst
      rw [he] at hlk H
      exact ⟨(v, S', l), trivial, ⟨hlk, hS'⟩, H⟩
  clear H
  rintro ⟨v, S', l⟩ u w8 ⟨⟨hlk, hS'⟩, H⟩
  replace H : Hp w (fun _ => False) w8 (redL g1 r g7 g5 g3 n v l) [MatR S' v (endS n (R, [])).1] := H
  obtain ⟨A1, c1, rfl⟩ := (H.ro 0 rfl).form
  generalize endS n (R, []) = E at H hlk ⊢
  obtain ⟨RE, TE⟩ := E
  have H2 := H.ownNil 3 1
  clear H
  simp only at H2 hlk ⊢
  have hrl : ∀ c, (risen c TE).length ≤ c := fun c => risen_len_le c TE
  refine cut_rule (γ := Option Addr × Nat) _ rfl (fun (B, d) => [(6, .slice B (risen n TE).length d)])
    (fun (B, d) w' => Hp w (fun _ => False) w' (own 3 1 (.slice B (risen n TE).length d) (risen n TE).length (intsI (risen n TE)) :: redL g1 r g7 g5 g3 n (.slice A1 RE.length c1) l) [MatR S' (.slice A1 RE.length c1) RE]) ?_ ?_
  · refine fieldAddr_by (fa91_0 _) ?_
    refine H2.load 1 rfl agg3 rfl ?_
    refine loop_rule (γ := Nat × Option Addr × Nat) _ rfl (fun (c, B, d) => [(31, .int .i64 (c : Int)), (6, .slice B (risen c TE).length d)])
      (fun (c, B, d) w' => c ≤ n ∧ Hp w (fun _ => False) w' (own 3 1 (.slice B (risen c TE).length d) (risen c TE).length (intsI (risen c TE)) :: redL g1 r g7 g5 g3 n (.slice A1 RE.length c1) l) [MatR S' (.slice A1 RE.length c1) RE])
      (fun (c, _) => n - c) (0, none, 0) ⟨rfl, rfl, trivial⟩ ⟨Nat.zero_le _, H2⟩ ?_
    clear H2
    rintro ⟨c, B, d⟩ u w9 ⟨hc, H⟩
    replace H : Hp _ _ _ _ _ := H
    refine cond_dec (fun h7 => ?_) (fun h7 => ?_)
    · have hsn := risen_succ c TE
      have hcl := hrl c
      refine cut_rule (γ := Option Addr × Nat) _ rfl (fun (B, d) => [(6, .slice B (risen (c + 1) TE).length d)])
        (fun (B, d) w' => Hp w (fun _ => False) w' (own 3 1 (.slice B (risen (c + 1) TE).length d) (risen (c + 1) TE).length (intsI (risen (c + 1) TE)) :: redL g1 r g7 g5 g3 n (.slice A1 RE.length c1) l) [MatR S' (.slice A1 RE.length c1) RE]) ?_ ?_
      · refine cut_rule (γ := Unit) _ rfl (fun _ => [(10, .int .i64 (c : Int))]) (fun _ w' => Hp.cl H w') ⟨(), ⟨rfl, trivial⟩, H⟩ ?_
        rintro ⟨⟩ u w10 H1
        replace H : Hp _ _ _ _ _ := H1
        clear H1
        refine H.load 4 rfl agg210 rfl ?_
        refine H.lookup 2 rfl W210 (c : Int) ?_
        by_cases hm : (c : Int) ∈ TE
        · rw [if_pos hm] at hsn
          rw [hlk, if_pos hm]
          refine cond_yes rfl ?_
          refine H.buildOne T32 rfl ?_
          clear H
          intro g11 w11 H
          refine H.appendOne 0 T32 rfl rfl (by omega) (by omega) ?_
          clear H
          intro B2 d2 w12 H
          have e1 : (risen (c + 1) TE).length = (risen c TE).length + 1 := by rw [hsn]; simp
          have e2 : intsI (risen (c + 1) TE) = intsI (risen c TE) ++ [.int .i64 (c : Int)] := by rw [hsn, intsI_snoc]
          exact ⟨(B2, d2), ⟨by rw [e1]; rfl, trivial⟩, by rw [e1, e2]; exact H⟩
        · rw [if_neg hm, List.append_nil] at hsn
          rw [hlk, if_neg hm]
          refine cond_no rfl ?_
          exact ⟨(B, d), ⟨by rw [hsn]; rfl, trivial⟩, by rw [hsn]; exact H⟩
      · clear H
        rintro ⟨B2, d2⟩ u w10 H
        replace H : Hp _ _ _ _ _ := H
        exact ⟨(c + 1, B2, d2), by show n - (c + 1) < n - c; omega, ⟨up (by omega), rfl, trivial⟩, by show c + 1 ≤ n; omega, H⟩
    · have : c = n := by omega
      subst this
      exact ⟨(B, d), ⟨rfl, trivial⟩, H⟩
  clear H2
  rintro ⟨B, d⟩ u w9 H
  replace H : Hp w (fun _ => False) w9 [own 3 1 (.slice B (risen n TE).length d) (risen n TE).length (intsI (risen n TE)), blk g1 91 (mc n (.slice A1 RE.length c1)), mapR kaI vbB r l, blk g7 37 (clos g1 g5), blk g5 210 #[.map (some r)], blk g3 91 (mv 0 (.slice none 0 0)).cells] [MatR S' (.slice A1 RE.length c1) RE] := H
  refine H.drawC [own 3 1 (.slice B (risen n TE).length d) (risen n TE).length (intsI (risen n TE)), blk g1 91 (mc n (.slice A1 RE.length c1)), mapR kaI vbB r l, blk g7 37 (clos g1 g5), blk g5 210 #[.map (some r)]] (fun u H => (H.front 5 rfl).forget) fol (by kernel_rfl) ?_
  clear H
  intro w10 H
  refine quiet _ (fun w H => H.loadAll 1 rfl agg91 size91 ⟨rfl, rfl⟩) ?_
  refine H.storeAll 5 rfl size91 rfl (fun v hv => mc_one v hv) ?_
  clear H
  intro w11 H
  refine ⟨.inl (H.front 5 rfl).forget, ?_⟩
  refine H.loadAll 5 rfl agg91 size91 ?_
  refine ⟨rfl, ?_⟩
  exact ⟨B, d, _, S', rfl, H.only, hS'⟩
end Go.Proofs.Ytjebpngdinbckaa
end

section
/- Coverings: Reduce of the reference. -/
namespace Go.Proofs.Ytjebpngdinbckaa
open Go.Dk
attribute [local irreducible] IntKind.wrap

def tookL (n : Nat) (T : List Int) : List Bool := (List.range n).map fun k : Nat => decide ((k : Int) ∈ T)
theorem tookL_length (n : Nat) (T : List Int) : (tookL n T).length = n := by simp [tookL]
theorem tookL_nil (n : Nat) : List.replicate n (Value.bool false) = bls (tookL n []) := by
  unfold bls tookL
  rw [List.map_map]
  have : ((fun b => Value.bool b) ∘ fun k : Nat => decide ((k : Int) ∈ ([] : List Int))) = fun _ => Value.bool false := by funext k; simp
  rw [this, List.map_const', List.length_range]
theorem tookL_set {n : Nat} {T : List Int} {c : Int} (h0 : 0 ≤ c) (h1 : c < n) : bls (tookL n (T ++ [c])) = (bls (tookL n T)).set c.toNat (.bool true) := by
  rw [← bls_set]
  congr 1
  apply List.ext_getElem?
  intro i
  rw [List.getElem?_set, tookL_length]
  unfold tookL
  rw [List.getElem?_map, List.getElem?_map]
  by_cases hi : c.toNat = i
  · subst hi
    rw [if_pos rfl, if_pos (by omega), List.getElem?_range (by omega)]
    simp; right; omega
  · rw [if_neg hi]
    by_cases hn : i < n
    · rw [List.getElem?_range hn]
      have : ¬ (i : Int) = c := by omega
      simp [this]
    · rw [List.getElem?_eq_none (by simp; omega)]; rfl
theorem tookL_get {n : Nat} {T : List Int} {c : Nat} (h : c < n) : (bls (tookL n T))[c]? = some (.bool (decide ((c : Int) ∈ T))) := by
  unfold bls tookL
  rw [List.map_map, List.getElem?_map, List.getElem?_range h]; rfl
theorem ent90 : enters Try.prog 90 = true := by kernel_rfl
theorem c90 (n : Nat) (R : Mat) (v1 : Value) (S : Nat → Prop) (w : World) (hl : R.length ≤ 1000000000) (hright : RightM n R) (h1 : matOk S v1 R w) (hS : ∀ g, S g → g < w.heap.size) :
    Fun Try.prog 90 [v1, .int .i64 (n : Int)] w fun o w' => ∃ B d v' S', o = .tuple #[.slice B (risen n (endS n (R, [])).2).length d, v'] ∧
      Hp w (fun _ => False) w' [own 3 1 (.slice B (risen n (endS n (R, [])).2).length d) (risen n (endS n (R, [])).2).length (intsI (risen n (endS n (R, [])).2))] [MatR S' v' (endS n (R, [])).1] ∧ ∀ g, S' g → w.heap.size ≤ g ∨ S g := by
  refine fun_of_W (N := 56) Try.func90 ent90 rfl rfl rfl (by simp) ?_
  have H := startM h1 hS
  obtain ⟨A, ca, rfl⟩ := h1.form
  have hn4 : n ≤ 4000 := by have := hright.le; omega
  have hrun : ∀ k, RightM n (runS n (R, []) k).1 ∧ (runS n (R, []) k).1.length ≤ 1000000000 ∧ ∀ x ∈ (runS n (R, []) k).1, x.length ≤ 1000000000 := fun k => by
    have h1 := (run_inv hright k).right
    have h2 : (runS n (R, []) k).1.length ≤ R.length := run_len (s := (R, [])) k
    exact ⟨h1, by omega, fun x hx => by have := row_len h1 hx; omega⟩
  refine cut_rule (γ := Unit) _ rfl (fun _ => []) (fun _ w' => Hp.cl H w') ⟨(), trivial, H⟩ ?_
  rintro ⟨⟩ u w0 H1
  replace H : Hp _ _ _ _ _ := H1
  clear H1
  refine cut_rule (γ := Nat) _ rfl (fun g => [(6, .slice (some ⟨g, 0, none⟩) n n)]) (fun g w' => Hp w (fun _ => False) w' [own 4 1 (.slice (some ⟨g, 0, none⟩) n n) n (bls (tookL n []))] [MatR S (.slice A R.length ca) R]) ?_ ?_
  · refine H.make T29 n rfl rfl (by omega) (by omega) ?_
    clear H
    intro g w1 H
    rw [madeBool, tookL_nil] at H
    exact ⟨g, ⟨rfl, trivial⟩, H⟩
  clear H
  rintro g u w1 H
  replace H : Hp _ _ _ _ _ := H
  refine cut_rule (γ := Option Addr × Nat × (Nat → Prop)) _ rfl (fun (A, ca, _) => [(0, .slice A (endS n (R, [])).1.length ca)])
    (fun (A, ca, S') w' => (∀ g, S' g → w.heap.size ≤ g ∨ S g) ∧ Hp w (fun _ => False) w' [own 4 1 (.slice (some ⟨g, 0, none⟩) n n) n (bls (tookL n (endS n (R, [])).2))] [MatR S' (.slice A (endS n (R, [])).1.length ca) (endS n (R, [])).1]) ?_ ?_
  · refine loop_rule (γ := Nat × Option Addr × Nat × (Nat → Prop)) _ rfl (fun (k, A, ca, _) => [(0, .slice A (runS n (R, []) k).1.length ca)])
      (fun (k, A, ca, S') w' => (∀ g, S' g → w.heap.size ≤ g ∨ S g) ∧ Hp w (fun _ => False) w' [own 4 1 (.slice (some ⟨g, 0, none⟩) n n) n (bls (tookL n (runS n (R, []) k).2))] [MatR S' (.slice A (runS n (R, []) k).1.length ca) (runS n (R, []) k).1])
      (fun (k, _) => massM (runS n (R, []) k).1) (0, A, ca, S) ⟨rfl, trivial⟩ ⟨fun g hg => .inr hg, H⟩ ?_
    clear H
    rintro ⟨k, A, ca, S'⟩ u w2 ⟨hS', H⟩
    replace H : Hp w (fun _ => False) w2 [own 4 1 (.slice (some ⟨g, 0, none⟩) n n) n (bls (tookL n (runS n (R, []) k).2))] [MatR S' (.slice A (runS n (R, []) k).1.length ca) (runS n (R, []) k).1] := H
    obtain ⟨hr1, hl1, hlr1⟩ := hrun k
    have hnd : ∀ x ∈ (runS n (R, []) k).1, x.Nodup := fun x hx => (hr1.rise x hx).nodup
    have hSS : ∀ S2 : Nat → Prop, (∀ g, S2 g → w.heap.size ≤ g ∨ S' g) → ∀ g, S2 g → w.heap.size ≤ g ∨ S g := fun S2 h g hg => (h g hg).elim .inl (hS' g)
    refine call_fn (c86 _ _ S' _ hl1 hlr1 (H.ro 0 rfl) (H.rlt _ (.head _))) ?_
    rintro _ w3 ⟨v', rfl, hn⟩
    obtain ⟨S2, H2, hS2⟩ := H.addM (.head _) hn
    have H0 := H.same hn.keeps
    clear H
    obtain ⟨A2, c2, rfl⟩ := (H2.ro 0 rfl).form
    cases ht : takeS (runS n (R, []) k).1 with
    | some p =>
      obtain ⟨R', c⟩ := p
      rw [ht] at H2
      have hst : stepS n (runS n (R, []) k) = some (R', (runS n (R, []) k).2 ++ [c]) := by unfold stepS; rw [ht]
      have hm := step_mass hst
      have hsu := run_succ hst
      have hcr := hr1.rng _ (take_some ht).1 c (.head _)
      refine cond_yes rfl ?_
      refine idxAddr_sl Try.underlying29 (s := 1) size4 c.toNat (by show c = _; omega) (by omega) (o' := c.toNat) (by omega) ?_
      refine H2.storeOwn 0 rfl size4 (by rw [bls, List.length_map, tookL_length]; omega) rfl ?_
      clear H2
      intro w4 H2
      refine ⟨(k + 1, A2, c2, S2), ?_, ⟨by rw [hsu]; rfl, trivial⟩, hSS _ hS2, ?_⟩
      · show massM (runS n (R, []) (k + 1)).1 < massM (runS n (R, []) k).1
        rw [hsu]; exact hm
      · rw [hsu, tookL_set hcr.1 hcr.2]; exact H2.onlyRO
    | none =>
      clear H2
      refine cond_no rfl ?_
      refine call_fn (c87 _ _ S' _ hl1 hlr1 hnd (H0.ro 0 rfl) (H0.rlt _ (.head _))) ?_
      rintro _ w4 ⟨v', rfl, hn4⟩
      obtain ⟨S3, H2, hS3⟩ := H0.addM (.head _) hn4
      have H1 := H0.same hn4.keeps
      clear H0
      obtain ⟨A3, c3, rfl⟩ := (H2.ro 0 rfl).form
      cases hro : rowsS (runS n (R, []) k).1 with
      | some R' =>
        rw [hro] at H2
        have hst : stepS n (runS n (R, []) k) = some (R', (runS n (R, []) k).2) := by unfold stepS; rw [ht, hro]
        have hm := step_mass hst
        have hsu := run_succ hst
        refine cond_yes rfl ?_
        refine ⟨(k + 1, A3, c3, S3), ?_, ⟨by rw [hsu]; rfl, trivial⟩, hSS _ hS3, ?_⟩
        · show massM (runS n (R, []) (k + 1)).1 < massM (runS n (R, []) k).1
          rw [hsu]; exact hm
        · rw [hsu]; exact H2.onlyRO
      | none =>
        clear H2
        refine cond_no rfl ?_
        refine call_fn (c88 _ n _ S' _ hl1 (by omega) hlr1 (H1.ro 0 rfl) (H1.rlt _ (.head _))) ?_
        rintro _ w5 ⟨v', rfl, hn5⟩
        obtain ⟨S4, H2, hS4⟩ := H1.addM (.head _) hn5
        have H0 := H1.same hn5.keeps
        clear H1
        obtain ⟨A4, c4, rfl⟩ := (H2.ro 0 rfl).form
        cases hco : colsS n (runS n (R, []) k).1 with
        | some R' =>
          rw [hco] at H2
          have hst : stepS n (runS n (R, []) k) = some (R', (runS n (R, []) k).2) := by unfold stepS; rw [ht, hro, hco]; rfl
          have hm := step_mass hst
          have hsu := run_succ hst
          refine cond_no rfl ?_
          refine ⟨(k + 1, A4, c4, S4), ?_, ⟨by rw [hsu]; rfl, trivial⟩, hSS _ hS4, ?_⟩
          · show massM (runS n (R, []) (k + 1)).1 < massM (runS n (R, []) k).1
            rw [hsu]; exact hm
          · rw [hsu]; exact H2.onlyRO
        | none =>
          have hst : stepS n (runS n (R, []) k) = none := by unfold stepS; rw [ht, hro, hco]; rfl
          have he := end_eq hst
          refine cond_yes rfl ?_
          exact ⟨(A, ca, S'), ⟨by rw [← he]; rfl, trivial⟩, hS', by rw [← he]; exact H0⟩
  clear H
  rintro ⟨A, ca, S'⟩ u w2 ⟨hS', H⟩
  replace H : Hp _ _ _ _ _ := H
  generalize endS n (R, []) = E at H ⊢
  obtain ⟨RE, TE⟩ := E
  simp only at H ⊢
  have hrl : ∀ c, (risen c TE).length ≤ c := fun c => risen_len_le c TE
  refine cut_rule (γ := Unit) _ rfl (fun _ => [(10, .slice none 0 0)]) (fun _ w' => Hp.cl H w') ⟨(), ⟨rfl, trivial⟩, H⟩ ?_
  rintro ⟨⟩ u w3 H1
  replace H : Hp _ _ _ _ _ := H1
  clear H1
  have H2 := H.ownNil 3 1
  clear H
  refine cut_rule (γ := Option Addr × Nat) _ rfl (fun (B, d) => [(10, .slice B (risen n TE).length d)])
    (fun (B, d) w' => Hp w (fun _ => False) w' [own 3 1 (.slice B (risen n TE).length d) (risen n TE).length (intsI (risen n TE)), own 4 1 (.slice (some ⟨g, 0, none⟩) n n) n (bls (tookL n TE))] [MatR S' (.slice A RE.length ca) RE]) ?_ ?_
  · refine loop_rule (γ := Nat × Option Addr × Nat) _ rfl (fun (c, B, d) => [(11, .int .i64 (c : Int)), (10, .slice B (risen c TE).length d)])
      (fun (c, B, d) w' => c ≤ n ∧ Hp w (fun _ => False) w' [own 3 1 (.slice B (risen c TE).length d) (risen c TE).length (intsI (risen c TE)), own 4 1 (.slice (some ⟨g, 0, none⟩) n n) n (bls (tookL n TE))] [MatR S' (.slice A RE.length ca) RE])
      (fun (c, _) => n - c) (0, none, 0) ⟨rfl, rfl, trivial⟩ ⟨Nat.zero_le _, H2⟩ ?_
    clear H2
    rintro ⟨c, B, d⟩ u w4 ⟨hc, H⟩
    replace H : Hp _ _ _ _ _ := H
    refine cond_dec (fun h7 => ?_) (fun h7 => ?_)
    · have hsn := risen_succ c TE
      have hcl := hrl c
      refine idxAddr_sl Try.underlying29 (s := 1) size4 c rfl (by omega) (o' := c) (by omega) ?_
      refine H.loadOwn 1 rfl agg4 (tookL_get (by omega)) ?_
      refine cond_dec (fun hm => ?_) (fun hm => ?_)
      · rw [if_pos hm] at hsn
        refine H.buildOne T32 rfl ?_
        clear H
        intro g11 w11 H
        refine H.appendOne 0 T32 rfl rfl (by omega) (by omega) ?_
        clear H
        intro B2 d2 w12 H
        have e1 : (risen (c + 1) TE).length = (risen c TE).length + 1 := by rw [hsn]; simp
        have e2 : intsI (risen (c + 1) TE) = intsI (risen c TE) ++ [.int .i64 (c : Int)] := by rw [hsn, intsI_snoc]
        exact ⟨(c + 1, B2, d2), by show n - (c + 1) < n - c; omega, ⟨up (by omega), by rw [e1]; rfl, trivial⟩, by show c + 1 ≤ n; omega, by rw [e1, e2]; exact H⟩
      · rw [if_neg hm, List.append_nil] at hsn
        exact ⟨(c + 1, B, d), by show n - (c + 1) < n - c; omega, ⟨up (by omega), by rw [hsn]; rfl, trivial⟩, by show c + 1 ≤ n; omega, by rw [hsn]; exact H⟩
    · have : c = n := by omega
      subst this
      exact ⟨(B, d), ⟨rfl, trivial⟩, H⟩
  clear H2
  rintro ⟨B, d⟩ u w4 H
  replace H : Hp _ _ _ _ _ := H
  exact ⟨B, d, _, S', rfl, H.only, hS'⟩
end Go.Proofs.Ytjebpngdinbckaa
end

section
/- Coverings: the examples. -/
namespace Go.Proofs.Ytjebpngdinbckaa
open Go.Dk
attribute [local irreducible] IntKind.wrap

theorem rowLit {S : Nat → Prop} {g : Nat} {cs : Array Value} {w : World} {ks : List Int} (h : (blk g 3 cs).ok w) (hcs : cs.toList = intsI ks) (hS : S g) : rowV S w (.slice (some ⟨g, 0, none⟩) ks.length ks.length) ks := by
  refine ⟨some ⟨g, 0, none⟩, ks.length, rfl, by simp [intsI], _, _, rfl, Nat.le_refl _, .inr ⟨g, 0, rfl, hS, fun j hj => ?_⟩⟩
  rw [Nat.zero_add, blk_cell h, ← hcs]; simp
theorem matLit {S : Nat → Prop} {g : Nat} {cs : Array Value} {w : World} {hs : List Value} {Q : Mat} (h : (blk g 32 cs).ok w) (hcs : cs.toList = hs) (hq : hsOk S w hs Q) (hS : S g) : matOk S (.slice (some ⟨g, 0, none⟩) Q.length Q.length) Q w := by
  refine ⟨some ⟨g, 0, none⟩, Q.length, hs, rfl, ⟨by rw [hq.1]; simp, _, _, rfl, Nat.le_refl _, .inr ⟨g, 0, rfl, hS, fun j hj => ?_⟩⟩, hq.2⟩
  rw [Nat.zero_add, blk_cell h, ← hcs]; simp
def exR : Mat := [[0], [0, 1], [1, 2]]
def exQ : Mat := [[0, 1], [2]]
theorem exR_T : redT 3 exR = [0, 1] := by decide
theorem exR_R : redR 3 exR = [] := by decide
theorem exR_C : redC 3 exR = 3 := by decide
theorem exR_E : redE 3 exR = 0 := by decide
theorem exQ_T : takeO 3 exQ = some ([[0, 1]], 2) := by decide
theorem build91b {a : Int} {A : Option Addr} {l c : Nat} {w : World} {kk : Value → World → Prop} (h : kk (mv a (.slice A l c)) w) : buildK Try.prog 91 [(0, .int .i64 a), (1, .slice A l c)] w kk := build_by (fun w => by kernel_rfl) h
theorem ent80 : enters Try.prog 80 = true := by kernel_rfl
theorem c80 (w : World) : Fun Try.prog 80 [] w fun v w' => v = .bool true ∧ Same w w' := by
  refine fun_of_W (N := 46) Try.func80 ent80 rfl rfl rfl (by simp) ?_
  have H := Hp.start0 w
  refine cut_rule (γ := Unit) _ rfl (fun _ => []) (fun _ w' => Hp.cl H w') ⟨(), trivial, H⟩ ?_
  rintro ⟨⟩ u w0 H1
  replace H : Hp _ _ _ _ _ := H1
  clear H1
  refine cut_rule (γ := Option Addr × Nat × Nat × Value × (Nat → Prop)) _ rfl (fun (B, d, g2, _) => [(1, .slice B 2 d), (2, .pointer (some ⟨g2, 0, none⟩)), (3, .int .i64 0)])
    (fun (B, d, g2, v, S') w' => Hp w (fun _ => False) w' [blk g2 91 (mc 3 v), own 3 1 (.slice B 2 d) 2 (intsI [0, 1])] [MatR S' v []]) ?_ ?_
  · refine H.buildSl T32 (cs := #[.int .i64 0]) (by decide) (by decide) (by kernel_rfl) ?_
    clear H
    intro g8 w1 H
    refine H.buildSl T32 (cs := #[.int .i64 0, .int .i64 1]) (by decide) (by decide) (by kernel_rfl) ?_
    clear H
    intro g9 w2 H
    refine H.buildSl T32 (cs := #[.int .i64 1, .int .i64 2]) (by decide) (by decide) (by kernel_rfl) ?_
    clear H
    intro g10 w3 H
    refine H.buildSl T89 (cs := #[.slice (some ⟨g8, 0, none⟩) 1 1, .slice (some ⟨g9, 0, none⟩) 2 2, .slice (some ⟨g10, 0, none⟩) 2 2]) (by decide) (by decide) (by kernel_rfl) ?_
    clear H
    intro g11 w4 H
    refine build91b ?_
    have hm : matOk (fun g => g = g8 ∨ g = g9 ∨ g = g10 ∨ g = g11) (.slice (some ⟨g11, 0, none⟩) 3 3) exR w4 := by
      refine matLit (Q := exR) (H.get 0 rfl) rfl ?_ (.inr (.inr (.inr rfl)))
      have h1 := (hsOk.nil (fun g => g = g8 ∨ g = g9 ∨ g = g10 ∨ g = g11) w4).snoc (rowLit (ks := [0]) (H.get 3 rfl) rfl (.inl rfl))
      have h2 := h1.snoc (rowLit (ks := [0, 1]) (H.get 2 rfl) rfl (.inr (.inl rfl)))
      exact h2.snoc (rowLit (ks := [1, 2]) (H.get 1 rfl) rfl (.inr (.inr (.inl rfl))))
    have H2 := H.freeze.freeze.freeze.freeze
    refine call_fn (c89 3 exR _ _ _ (by decide) (by decide) hm (fun g hg => ?_)) ?_
    · rcases hg with rfl | rfl | rfl | rfl
      · exact blk_lt (H.get 3 rfl)
      · exact blk_lt (H.get 2 rfl)
      · exact blk_lt (H.get 1 rfl)
      · exact blk_lt (H.get 0 rfl)
    rintro _ w5 ⟨B, d, v', S', rfl, HR, hS'⟩
    rw [exR_T, exR_R] at HR
    rw [exR_T, exR_C, exR_E]
    have H3 := H2.merge HR fun r hr g hg => by
      rw [List.mem_singleton] at hr
      subst hr
      rcases hS' g hg with h | h
      · exact .inl h
      · right
        rcases h with rfl | rfl | rfl | rfl
        · exact ⟨_, .head _, rfl⟩
        · exact ⟨_, .tail _ (.head _), rfl⟩
        · exact ⟨_, .tail _ (.tail _ (.head _)), rfl⟩
        · exact ⟨_, .tail _ (.tail _ (.tail _ (.head _))), rfl⟩
    clear H H2 HR
    obtain ⟨A1, c1, rfl⟩ := (H3.ro 0 rfl).form
    refine H3.alloc 91 zero91 rfl ?_
    clear H3
    intro g2 w6 H
    refine H.storeAll 0 rfl size91 rfl (fun v hv => mc_one v hv) ?_
    clear H
    intro w7 H
    exact ⟨(B, d, g2, _, S'), ⟨rfl, rfl, rfl, trivial⟩, H.onlyRO⟩
  clear H
  rintro ⟨B, d, g2, v, S'⟩ u w1 H
  replace H : Hp w (fun _ => False) w1 [blk g2 91 (mc 3 v), own 3 1 (.slice B 2 d) 2 (intsI [0, 1])] [MatR S' v []] := H
  obtain ⟨A1, c1, rfl⟩ := (H.ro 0 rfl).form
  refine cut_rule (γ := Unit) _ rfl (fun _ => [(5, .int .i64 2), (6, .bool true)]) (fun _ w' => Hp.cl H w') ?_ ?_
  · refine H.buildSl T32 (cs := #[.int .i64 0, .int .i64 1]) (by decide) (by decide) (by kernel_rfl) ?_
    intro g8 w2 H2
    refine H2.buildSl T32 (cs := #[.int .i64 2]) (by decide) (by decide) (by kernel_rfl) ?_
    clear H2
    intro g9 w3 H2
    refine H2.buildSl T89 (cs := #[.slice (some ⟨g8, 0, none⟩) 2 2, .slice (some ⟨g9, 0, none⟩) 1 1]) (by decide) (by decide) (by kernel_rfl) ?_
    clear H2
    intro g11 w4 H2
    refine build91b ?_
    have hm : matOk (fun g => g = g8 ∨ g = g9 ∨ g = g11) (.slice (some ⟨g11, 0, none⟩) 2 2) exQ w4 := by
      refine matLit (Q := exQ) (H2.get 0 rfl) rfl ?_ (.inr (.inr rfl))
      have h1 := (hsOk.nil (fun g => g = g8 ∨ g = g9 ∨ g = g11) w4).snoc (rowLit (ks := [0, 1]) (H2.get 2 rfl) rfl (.inl rfl))
      exact h1.snoc (rowLit (ks := [2]) (H2.get 1 rfl) rfl (.inr (.inl rfl)))
    refine call_fn (c81 3 exQ _ _ _ (by decide) (by decide) hm (fun g hg => ?_)) ?_
    · rcases hg with rfl | rfl | rfl
      · exact blk_lt (H2.get 2 rfl)
      · exact blk_lt (H2.get 1 rfl)
      · exact blk_lt (H2.get 0 rfl)
    rintro _ w5 ⟨v', rfl, hn⟩
    have H3 := H2.same hn.keeps
    obtain ⟨S2, hmat, _⟩ := hn.mat
    obtain ⟨A2, c2, rfl⟩ := hmat.form
    refine H3.alloc 91 zero91 rfl ?_
    clear H2 H3
    intro g4 w6 H2
    refine H2.storeAll 0 rfl size91 rfl (fun v hv => mc_one v hv) ?_
    clear H2
    intro w7 H2
    exact ⟨(), ⟨rfl, rfl, trivial⟩, H2.forget.forget.forget.forget⟩
  · rintro ⟨⟩ u w2 H1
    replace H : Hp _ _ _ _ _ := H1
    clear H1
    refine H.buildSl T32 (cs := #[.int .i64 0, .int .i64 1]) (by decide) (by decide) (by kernel_rfl) ?_
    clear H
    intro g27 w3 H
    have hrow : rowV (fun g => g < w3.heap.size) w3 (.slice (some ⟨g27, 0, none⟩) 2 2) [0, 1] := rowLit (ks := [0, 1]) (H.get 0 rfl) rfl (blk_lt (H.get 0 rfl))
    obtain ⟨B9, c9, hv9, hs9⟩ := hrow
    injection hv9 with e1 e2 e3
    subst e1; subst e3
    refine call_fn (c91 [0, 1] [0, 1] B _ d _ _ (by decide) (by decide) (own_Sl (H.get 2 rfl)) hs9) ?_
    rintro _ w4 ⟨rfl, hk⟩
    replace H := H.same hk
    refine cond_yes rfl ?_
    refine fieldAddr_by (fa91_1 _) ?_
    refine cond_yes rfl ?_
    refine H.load 1 rfl agg89 rfl ?_
    refine cond_yes rfl ?_
    refine len_sl Try.underlying89 ?_
    iterate 10 refine cond_yes rfl ?_
    exact ⟨rfl, H.keeps⟩
end Go.Proofs.Ytjebpngdinbckaa
end

section
/- ReduceSteps. -/
namespace Go.Proofs.Ytjebpngdinbckaa
open Go.Dk
attribute [local irreducible] IntKind.wrap

theorem great_no {cols : Int} {R : Mat} (h : greatB cols R = false) : R.length ≤ 30 ∧ (∀ r ∈ R, r.length ≤ 100) ∧ (cols ≤ 30 ∨ 4000 < cols) := by
  unfold greatB greatM at h
  simp only [Bool.or_eq_false_iff, decide_eq_false_iff_not, Bool.and_eq_false_iff] at h
  obtain ⟨⟨⟨h1, h2⟩, h3⟩, h4⟩ := h
  refine ⟨by omega, fun r hr => ?_, by omega⟩
  have : ¬ decide (100 < r.length) = true := fun hh => by rw [List.any_eq_true.2 ⟨r, hr, hh⟩] at h1; cases h1
  simpa using this
/-- The rows of a part that is read. -/
theorem _root_.Go.Dk.Hp.matAt {w0 w : World} {F : Nat → Prop} {L M : List Res} (H : Hp w0 F w L M) (n : Nat) {S : Nat → Prop} {v : Value} {R : Mat} (hn : M[n]? = some (MatR S v R)) : MatAt w v R :=
  MatR.mono (H.ro n hn) fun g hg => H.rlt _ (List.mem_of_getElem? hn) g hg
def Small (R : Mat) : Prop := R.length ≤ 1000000000 ∧ ∀ r ∈ R, r.length ≤ 1000000000
theorem small_take {R : Mat} (h : Small R) : Small (((takeS R).map (·.1)).getD R) := by
  cases ht : takeS R with
  | none => exact h
  | some p =>
    obtain ⟨R', k⟩ := p
    obtain ⟨_, hR⟩ := take_some ht
    show Small R'
    rw [hR]
    exact ⟨Nat.le_trans (List.length_filter_le _ _) h.1, fun r hr => h.2 r (List.mem_filter.1 hr).1⟩
theorem small_rows {R : Mat} (h : Small R) : Small ((rowsS R).getD R) := by
  cases ht : rowsS R with
  | none => exact h
  | some R' =>
    obtain ⟨i, j, _, _, _, _, hR⟩ := rows_some ht
    show Small R'
    rw [hR]
    exact ⟨Nat.le_trans (List.length_eraseIdx_le _ _) h.1, fun r hr => h.2 r (List.mem_of_mem_eraseIdx hr)⟩
theorem small_cols {n : Nat} {R : Mat} (h : Small R) : Small ((colsS n R).getD R) := by
  cases ht : colsS n R with
  | none => exact h
  | some R' =>
    obtain ⟨c, d, _, _, _, _, _, hR⟩ := cols_some ht
    show Small R'
    rw [hR]
    refine ⟨by unfold dropC; rw [List.length_map]; exact h.1, fun r hr => ?_⟩
    obtain ⟨q, hq, rfl⟩ := List.mem_map.1 hr
    exact Nat.le_trans (List.length_filter_le _ _) (h.2 q hq)
theorem law13 (cols : Int) (R : Mat) (v1 : Value) (w : World) (hm : MatArg w v1 R) : Fun Try.prog 13 [mv cols v1] w fun v w' => v = .bool true ∧ Same w w' := by
  refine fun_of_W (N := 161) Try.func13 (by kernel_rfl) rfl rfl rfl (by simp) ?_
  have H := startM hm.mat (fun g hg => hg)
  obtain ⟨A, ca, hv1⟩ := hm.mat.form
  subst hv1
  refine H.box 91 (mv _ _) (cs := mc _ _) rfl ?_
  clear H
  intro g1 w1 H
  refine H.loadAll 0 rfl agg91 size91 ?_
  refine call_fn (c79 cols R _ _ hm.len (hm.mat.same H.keeps)) ?_
  rintro _ w2 ⟨rfl, hk⟩
  replace H := H.same hk
  clear hk
  refine cond_split (fun hg => ?_) (fun hg => ?_)
  · refine call_fn (c80 _) ?_
    rintro _ w3 ⟨rfl, hk⟩
    exact ⟨rfl, (H.same hk).keeps⟩
  obtain ⟨hl30, hr100, _⟩ := great_no hg
  have hl : R.length ≤ 1000000000 := by omega
  have hlr : ∀ r ∈ R, r.length ≤ 1000000000 := fun r hr => by have := hr100 r hr; omega
  cases hr : rightB cols R with
  | false =>
    have e1 : takeO cols R = none := by unfold takeO; rw [hr]; rfl
    have e2 : rowsO cols R = none := by unfold rowsO; rw [hr]; rfl
    have e3 : colsO cols R = none := by unfold colsO; rw [hr]; rfl
    refine cut_rule (γ := Nat × Value × (Nat → Prop)) _ rfl (fun (g3, _) => [(3, .pointer (some ⟨g3, 0, none⟩)), (4, .int .i64 0), (5, .bool false)])
      (fun (g3, v3, S3) w' => Hp w (fun _ => False) w' [blk g3 91 (mc cols v3), blk g1 91 (mc cols (.slice A R.length ca))] [MatR S3 v3 R, MatR (fun g => g < w.heap.size) (.slice A R.length ca) R]) ?_ ?_
    · refine H.loadAll 0 rfl agg91 size91 ?_
      refine call_fn (c81 cols R _ _ _ hl hlr (H.ro 0 rfl) (H.rlt _ (.head _))) ?_
      rintro _ w3 ⟨v3, rfl, hn⟩
      rw [e1] at hn ⊢
      obtain ⟨S3, H2, _⟩ := H.addM (.head _) hn
      obtain ⟨A3, c3, rfl⟩ := (H2.ro 0 rfl).form
      refine H2.alloc 91 zero91 rfl ?_
      clear H2
      intro g3 w4 H2
      refine H2.storeAll 0 rfl size91 rfl (fun v hv => mc_one v hv) ?_
      clear H2
      intro w5 H2
      exact ⟨(g3, _, S3), ⟨rfl, rfl, rfl, trivial⟩, H2⟩
    clear H
    rintro ⟨g3, v3, S3⟩ u w3 H
    replace H : Hp w (fun _ => False) w3 [blk g3 91 (mc cols v3), blk g1 91 (mc cols (.slice A R.length ca))] [MatR S3 v3 R, MatR (fun g => g < w.heap.size) (.slice A R.length ca) R] := H
    refine cut_rule (γ := Nat × Value × (Nat → Prop)) _ rfl (fun (g6, _) => [(6, .pointer (some ⟨g6, 0, none⟩)), (7, .bool false)])
      (fun (g6, v6, S6) w' => Hp w (fun _ => False) w' [blk g6 91 (mc cols v6), blk g3 91 (mc cols v3), blk g1 91 (mc cols (.slice A R.length ca))] [MatR S6 v6 R, MatR S3 v3 R, MatR (fun g => g < w.heap.size) (.slice A R.length ca) R]) ?_ ?_
    · refine H.loadAll 1 rfl agg91 size91 ?_
      refine call_fn (c82 cols R _ _ _ hl hlr (H.ro 1 rfl) (H.rlt _ (.tail _ (.head _)))) ?_
      rintro _ w4 ⟨v6, rfl, hn⟩
      rw [e2] at hn ⊢
      obtain ⟨S6, H2, _⟩ := H.addM (.tail _ (.head _)) hn
      obtain ⟨A6, c6, rfl⟩ := (H2.ro 0 rfl).form
      refine H2.alloc 91 zero91 rfl ?_
      clear H2
      intro g6 w5 H2
      refine H2.storeAll 0 rfl size91 rfl (fun v hv => mc_one v hv) ?_
      clear H2
      intro w6 H2
      exact ⟨(g6, _, S6), ⟨rfl, rfl, trivial⟩, H2⟩
    clear H
    rintro ⟨g6, v6, S6⟩ u w4 H
    replace H : Hp w (fun _ => False) w4 [blk g6 91 (mc cols v6), blk g3 91 (mc cols v3), blk g1 91 (mc cols (.slice A R.length ca))] [MatR S6 v6 R, MatR S3 v3 R, MatR (fun g => g < w.heap.size) (.slice A R.length ca) R] := H
    refine cut_rule (γ := Nat × Value × (Nat → Prop)) _ rfl (fun (g8, _) => [(8, .pointer (some ⟨g8, 0, none⟩)), (9, .bool false)])
      (fun (g8, v8, S8) w' => Hp w (fun _ => False) w' [blk g8 91 (mc cols v8), blk g6 91 (mc cols v6), blk g3 91 (mc cols v3), blk g1 91 (mc cols (.slice A R.length ca))] [MatR S8 v8 R, MatR S6 v6 R, MatR S3 v3 R, MatR (fun g => g < w.heap.size) (.slice A R.length ca) R]) ?_ ?_
    · refine H.loadAll 2 rfl agg91 size91 ?_
      refine call_fn (c83 cols R _ _ _ hl hlr (H.ro 2 rfl) (H.rlt _ (.tail _ (.tail _ (.head _))))) ?_
      rintro _ w5 ⟨v8, rfl, hn⟩
      rw [e3] at hn ⊢
      obtain ⟨S8, H2, _⟩ := H.addM (.tail _ (.tail _ (.head _))) hn
      obtain ⟨A8, c8, rfl⟩ := (H2.ro 0 rfl).form
      refine H2.alloc 91 zero91 rfl ?_
      clear H2
      intro g8 w6 H2
      refine H2.storeAll 0 rfl size91 rfl (fun v hv => mc_one v hv) ?_
      clear H2
      intro w7 H2
      exact ⟨(g8, _, S8), ⟨rfl, rfl, trivial⟩, H2⟩
    clear H
    rintro ⟨g8, v8, S8⟩ u w5 H
    replace H : Hp w (fun _ => False) w5 [blk g8 91 (mc cols v8), blk g6 91 (mc cols v6), blk g3 91 (mc cols v3), blk g1 91 (mc cols (.slice A R.length ca))] [MatR S8 v8 R, MatR S6 v6 R, MatR S3 v3 R, MatR (fun g => g < w.heap.size) (.slice A R.length ca) R] := H
    obtain ⟨A8, c8, rfl⟩ := (H.ro 0 rfl).form
    obtain ⟨A6, c6, rfl⟩ := (H.ro 1 rfl).form
    obtain ⟨A3, c3, rfl⟩ := (H.ro 2 rfl).form
    refine fieldAddr_by (fa91_0 _) ?_
    refine H.load 3 rfl agg3 rfl ?_
    refine fieldAddr_by (fa91_1 _) ?_
    refine H.load 3 rfl agg89 rfl ?_
    refine call_fn (c84 cols R _ _ hl hlr (H.matAt 3 rfl)) ?_
    rintro _ w6 ⟨rfl, hk⟩
    replace H := H.same hk
    clear hk
    rw [hr]
    refine cond_yes rfl ?_
    refine cut_rule (γ := Unit) _ rfl (fun _ => [(10, .bool true)]) (fun _ w' => Hp.cl H w') ?_ ?_
    · refine fieldAddr_by (fa91_1 _) ?_
      refine H.load 2 rfl agg89 rfl ?_
      refine fieldAddr_by (fa91_1 _) ?_
      refine H.load 3 rfl agg89 rfl ?_
      refine call_fn (c85 R R _ _ _ hl hlr hlr (H.matAt 2 rfl) (H.matAt 3 rfl)) ?_ 
      rintro _ w12 ⟨rfl, hk12⟩ 
      replace H := H.same hk12 
      clear hk12
      refine cond_yes (decide_eq_true rfl) ?_
      refine fieldAddr_by (fa91_1 _) ?_
      refine cond_yes (decide_eq_true rfl) ?_
      refine H.load 1 rfl agg89 rfl ?_
      refine cond_yes (decide_eq_true rfl) ?_
      refine fieldAddr_by (fa91_1 _) ?_
      refine cond_yes (decide_eq_true rfl) ?_
      refine H.load 3 rfl agg89 rfl ?_
      refine cond_yes (decide_eq_true rfl) ?_
      refine call_fn (c85 R R _ _ _ hl hlr hlr (H.matAt 1 rfl) (H.matAt 3 rfl)) ?_ 
      rintro _ w22 ⟨rfl, hk22⟩ 
      replace H := H.same hk22 
      clear hk22
      iterate 2 refine cond_yes (decide_eq_true rfl) ?_
      refine fieldAddr_by (fa91_1 _) ?_
      refine cond_yes (decide_eq_true rfl) ?_
      refine H.load 0 rfl agg89 rfl ?_
      refine cond_yes (decide_eq_true rfl) ?_
      refine fieldAddr_by (fa91_1 _) ?_
      refine cond_yes (decide_eq_true rfl) ?_
      refine H.load 3 rfl agg89 rfl ?_
      refine cond_yes (decide_eq_true rfl) ?_
      refine call_fn (c85 R R _ _ _ hl hlr hlr (H.matAt 0 rfl) (H.matAt 3 rfl)) ?_ 
      rintro _ w33 ⟨rfl, hk33⟩ 
      replace H := H.same hk33 
      clear hk33
      refine cond_yes (decide_eq_true rfl) ?_
      exact ⟨(), ⟨congrArg Value.bool (decide_eq_true rfl), trivial⟩, H⟩
    · rintro ⟨⟩ u w7 H1
      replace H : Hp _ _ _ _ _ := H1
      clear H1
      iterate 13 refine cond_yes rfl ?_
      refine call_fn (c80 _) ?_ 
      rintro _ w22 ⟨rfl, hk22⟩ 
      replace H := H.same hk22 
      clear hk22
      refine cond_yes rfl ?_
      exact ⟨rfl, H.keeps⟩
  | true =>
    have hright := rightB_iff.1 hr
    obtain ⟨n, rfl⟩ : ∃ n : Nat, cols = n := ⟨cols.toNat, by have := hright.ge; omega⟩
    have hn4 : n ≤ 4000 := by have := hright.le; omega
    have hsm : Small R := ⟨hl, hlr⟩
    have hnd : ∀ r ∈ R, r.Nodup := fun r hr => (hright.rise r hr).nodup
    obtain ⟨T3, k3, b3, hT3, hc81, hc86⟩ : ∃ T3 k3 b3, Small T3 ∧ (∀ (S : Nat → Prop) (v : Value) (u : World), matOk S v R u → (∀ g, S g → g < u.heap.size) → Fun Try.prog 81 [mv n v] u fun o u' => ∃ v', o = .tuple #[mv n v', .int .i64 k3, .bool b3] ∧ NewM S u u' v' T3) ∧
        (∀ (S : Nat → Prop) (v : Value) (u : World), matOk S v R u → (∀ g, S g → g < u.heap.size) → Fun Try.prog 86 [v] u fun o u' => ∃ v', o = .tuple #[v', .int .i64 k3, .bool b3] ∧ NewM S u u' v' T3) := by
      refine ⟨_, _, _, small_take hsm, fun S v u h1 h2 => ?_, fun S v u h1 h2 => c86 R v S u hl hlr h1 h2⟩
      have := c81 n R v S u hl hlr h1 h2
      rwa [show takeO n R = takeS R by unfold takeO; rw [if_pos hr]] at this
    obtain ⟨T6, b6, hT6, hc82, hc87⟩ : ∃ T6 b6, Small T6 ∧ (∀ (S : Nat → Prop) (v : Value) (u : World), matOk S v R u → (∀ g, S g → g < u.heap.size) → Fun Try.prog 82 [mv n v] u fun o u' => ∃ v', o = .tuple #[mv n v', .bool b6] ∧ NewM S u u' v' T6) ∧
        (∀ (S : Nat → Prop) (v : Value) (u : World), matOk S v R u → (∀ g, S g → g < u.heap.size) → Fun Try.prog 87 [v] u fun o u' => ∃ v', o = .tuple #[v', .bool b6] ∧ NewM S u u' v' T6) := by
      refine ⟨_, _, small_rows hsm, fun S v u h1 h2 => ?_, fun S v u h1 h2 => c87 R v S u hl hlr hnd h1 h2⟩
      have := c82 n R v S u hl hlr h1 h2
      rwa [show rowsO n R = rowsS R by unfold rowsO; rw [if_pos hr]] at this
    obtain ⟨T8, b8, hT8, hc83, hc88⟩ : ∃ T8 b8, Small T8 ∧ (∀ (S : Nat → Prop) (v : Value) (u : World), matOk S v R u → (∀ g, S g → g < u.heap.size) → Fun Try.prog 83 [mv n v] u fun o u' => ∃ v', o = .tuple #[mv n v', .bool b8] ∧ NewM S u u' v' T8) ∧
        (∀ (S : Nat → Prop) (v : Value) (u : World), matOk S v R u → (∀ g, S g → g < u.heap.size) → Fun Try.prog 88 [v, .int .i64 (n : Int)] u fun o u' => ∃ v', o = .tuple #[v', .bool b8] ∧ NewM S u u' v' T8) := by
      refine ⟨_, _, small_cols (n := n) hsm, fun S v u h1 h2 => ?_, fun S v u h1 h2 => c88 R n v S u hl (by omega) hlr h1 h2⟩
      have := c83 n R v S u hl hlr h1 h2
      rwa [show colsO n R = colsS n R by unfold colsO; rw [if_pos hr, Int.toNat_natCast]] at this
    refine cut_rule (γ := Nat × Value × (Nat → Prop)) _ rfl (fun (g3, _) => [(3, .pointer (some ⟨g3, 0, none⟩)), (4, .int .i64 k3), (5, .bool b3)])
      (fun (g3, v3, S3) w' => Hp w (fun _ => False) w' [blk g3 91 (mc n v3), blk g1 91 (mc n (.slice A R.length ca))] [MatR S3 v3 T3, MatR (fun g => g < w.heap.size) (.slice A R.length ca) R]) ?_ ?_
    · refine H.loadAll 0 rfl agg91 size91 ?_
      refine call_fn (hc81 _ _ _ (H.ro 0 rfl) (H.rlt _ (.head _))) ?_
      rintro _ w3 ⟨v3, rfl, hn⟩
      obtain ⟨S3, H2, _⟩ := H.addM (.head _) hn
      obtain ⟨A3, c3, rfl⟩ := (H2.ro 0 rfl).form
      refine H2.alloc 91 zero91 rfl ?_
      clear H2
      intro g3 w4 H2
      refine H2.storeAll 0 rfl size91 rfl (fun v hv => mc_one v hv) ?_
      clear H2
      intro w5 H2
      exact ⟨(g3, _, S3), ⟨rfl, rfl, rfl, trivial⟩, H2⟩
    clear H
    rintro ⟨g3, v3, S3⟩ u w3 H
    replace H : Hp w (fun _ => False) w3 [blk g3 91 (mc n v3), blk g1 91 (mc n (.slice A R.length ca))] [MatR S3 v3 T3, MatR (fun g => g < w.heap.size) (.slice A R.length ca) R] := H
    refine cut_rule (γ := Nat × Value × (Nat → Prop)) _ rfl (fun (g6, _) => [(6, .pointer (some ⟨g6, 0, none⟩)), (7, .bool b6)])
      (fun (g6, v6, S6) w' => Hp w (fun _ => False) w' [blk g6 91 (mc n v6), blk g3 91 (mc n v3), blk g1 91 (mc n (.slice A R.length ca))] [MatR S6 v6 T6, MatR S3 v3 T3, MatR (fun g => g < w.heap.size) (.slice A R.length ca) R]) ?_ ?_
    · refine H.loadAll 1 rfl agg91 size91 ?_
      refine call_fn (hc82 _ _ _ (H.ro 1 rfl) (H.rlt _ (.tail _ (.head _)))) ?_
      rintro _ w4 ⟨v6, rfl, hn⟩
      obtain ⟨S6, H2, _⟩ := H.addM (.tail _ (.head _)) hn
      obtain ⟨A6, c6, rfl⟩ := (H2.ro 0 rfl).form
      refine H2.alloc 91 zero91 rfl ?_
      clear H2
      intro g6 w5 H2
      refine H2.storeAll 0 rfl size91 rfl (fun v hv => mc_one v hv) ?_
      clear H2
      intro w6 H2
      exact ⟨(g6, _, S6), ⟨rfl, rfl, trivial⟩, H2⟩
    clear H
    rintro ⟨g6, v6, S6⟩ u w4 H
    replace H : Hp w (fun _ => False) w4 [blk g6 91 (mc n v6), blk g3 91 (mc n v3), blk g1 91 (mc n (.slice A R.length ca))] [MatR S6 v6 T6, MatR S3 v3 T3, MatR (fun g => g < w.heap.size) (.slice A R.length ca) R] := H
    refine cut_rule (γ := Nat × Value × (Nat → Prop)) _ rfl (fun (g8, _) => [(8, .pointer (some ⟨g8, 0, none⟩)), (9, .bool b8)])
      (fun (g8, v8, S8) w' => Hp w (fun _ => False) w' [blk g8 91 (mc n v8), blk g6 91 (mc n v6), blk g3 91 (mc n v3), blk g1 91 (mc n (.slice A R.length ca))] [MatR S8 v8 T8, MatR S6 v6 T6, MatR S3 v3 T3, MatR (fun g => g < w.heap.size) (.slice A R.length ca) R]) ?_ ?_
    · refine H.loadAll 2 rfl agg91 size91 ?_
      refine call_fn (hc83 _ _ _ (H.ro 2 rfl) (H.rlt _ (.tail _ (.tail _ (.head _))))) ?_
      rintro _ w5 ⟨v8, rfl, hn⟩
      obtain ⟨S8, H2, _⟩ := H.addM (.tail _ (.tail _ (.head _))) hn
      obtain ⟨A8, c8, rfl⟩ := (H2.ro 0 rfl).form
      refine H2.alloc 91 zero91 rfl ?_
      clear H2
      intro g8 w6 H2
      refine H2.storeAll 0 rfl size91 rfl (fun v hv => mc_one v hv) ?_
      clear H2
      intro w7 H2
      exact ⟨(g8, _, S8), ⟨rfl, rfl, trivial⟩, H2⟩
    clear H
    rintro ⟨g8, v8, S8⟩ u w5 H
    replace H : Hp w (fun _ => False) w5 [blk g8 91 (mc n v8), blk g6 91 (mc n v6), blk g3 91 (mc n v3), blk g1 91 (mc n (.slice A R.length ca))] [MatR S8 v8 T8, MatR S6 v6 T6, MatR S3 v3 T3, MatR (fun g => g < w.heap.size) (.slice A R.length ca) R] := H
    obtain ⟨A8, c8, rfl⟩ := (H.ro 0 rfl).form
    obtain ⟨A6, c6, rfl⟩ := (H.ro 1 rfl).form
    obtain ⟨A3, c3, rfl⟩ := (H.ro 2 rfl).form
    refine cut_rule (γ := Unit) _ rfl (fun _ => []) (fun _ w' => Hp.cl H w') ?_ ?_
    · refine fieldAddr_by (fa91_0 _) ?_
      refine H.load 3 rfl agg3 rfl ?_
      refine fieldAddr_by (fa91_1 _) ?_
      refine H.load 3 rfl agg89 rfl ?_
      refine call_fn (c84 n R _ _ hl hlr (H.matAt 3 rfl)) ?_
      rintro _ w6 ⟨rfl, hk⟩
      rw [hr]
      refine cond_no rfl ?_
      exact ⟨(), trivial, H.same hk⟩
    rintro ⟨⟩ u w6 H1
    replace H : Hp _ _ _ _ _ := H1
    clear H1
    -- the reference's answers
    refine cut_rule (γ := Value × (Nat → Prop) × Option Addr × Nat) _ rfl (fun (v, _, A, c) => [(11, .slice A T3.length c), (12, .int .i64 k3), (13, .bool b3)])
      (fun (v, S9, A9, c9) w' => Hp w (fun _ => False) w' [blk g8 91 (mc n (.slice A8 T8.length c8)), blk g6 91 (mc n (.slice A6 T6.length c6)), blk g3 91 (mc n (.slice A3 T3.length c3)), blk g1 91 (mc n (.slice A R.length ca))] [MatR S8 (.slice A8 T8.length c8) T8, MatR S6 (.slice A6 T6.length c6) T6, MatR S3 (.slice A3 T3.length c3) T3, MatR (fun g => g < w.heap.size) (.slice A R.length ca) R, MatR S9 (.slice A9 T3.length c9) T3]) ?_ ?_
    · refine fieldAddr_by (fa91_1 _) ?_
      refine H.load 3 rfl agg89 rfl ?_
      refine call_fn (hc86 _ _ _ (H.ro 3 rfl) (H.rlt _ (.tail _ (.tail _ (.tail _ (.head _)))))) ?_
      rintro _ w7 ⟨v9, rfl, hn⟩
      obtain ⟨S9, H2, _⟩ := H.addM (.tail _ (.tail _ (.tail _ (.head _)))) hn
      obtain ⟨A9, c9, rfl⟩ := (H2.ro 0 rfl).form
      exact ⟨(.nilFunc, S9, A9, c9), ⟨rfl, rfl, rfl, trivial⟩, H2.weakenRO (by simp)⟩
    clear H
    rintro ⟨_, S9, A9, c9⟩ u w7 H
    replace H : Hp _ _ _ _ _ := H
    refine cut_rule (γ := Value × (Nat → Prop) × Option Addr × Nat) _ rfl (fun (v, _, A, c) => [(14, .slice A T6.length c), (15, .bool b6)])
      (fun (v, S10, A10, c10) w' => Hp w (fun _ => False) w' [blk g8 91 (mc n (.slice A8 T8.length c8)), blk g6 91 (mc n (.slice A6 T6.length c6)), blk g3 91 (mc n (.slice A3 T3.length c3)), blk g1 91 (mc n (.slice A R.length ca))] [MatR S8 (.slice A8 T8.length c8) T8, MatR S6 (.slice A6 T6.length c6) T6, MatR S3 (.slice A3 T3.length c3) T3, MatR (fun g => g < w.heap.size) (.slice A R.length ca) R, MatR S9 (.slice A9 T3.length c9) T3, MatR S10 (.slice A10 T6.length c10) T6]) ?_ ?_
    · refine fieldAddr_by (fa91_1 _) ?_
      refine H.load 3 rfl agg89 rfl ?_
      refine call_fn (hc87 _ _ _ (H.ro 3 rfl) (H.rlt _ (.tail _ (.tail _ (.tail _ (.head _)))))) ?_
      rintro _ w8 ⟨v9, rfl, hn⟩
      obtain ⟨S10, H2, _⟩ := H.addM (.tail _ (.tail _ (.tail _ (.head _)))) hn
      obtain ⟨A10, c10, rfl⟩ := (H2.ro 0 rfl).form
      exact ⟨(.nilFunc, S10, A10, c10), ⟨rfl, rfl, trivial⟩, H2.weakenRO (by simp)⟩
    clear H
    rintro ⟨_, S10, A10, c10⟩ u w8 H
    replace H : Hp _ _ _ _ _ := H
    refine cut_rule (γ := Value × (Nat → Prop) × Option Addr × Nat) _ rfl (fun (v, _, A, c) => [(16, .slice A T8.length c), (17, .bool b8)])
      (fun (v, S11, A11, c11) w' => Hp w (fun _ => False) w' [blk g8 91 (mc n (.slice A8 T8.length c8)), blk g6 91 (mc n (.slice A6 T6.length c6)), blk g3 91 (mc n (.slice A3 T3.length c3)), blk g1 91 (mc n (.slice A R.length ca))] [MatR S8 (.slice A8 T8.length c8) T8, MatR S6 (.slice A6 T6.length c6) T6, MatR S3 (.slice A3 T3.length c3) T3, MatR (fun g => g < w.heap.size) (.slice A R.length ca) R, MatR S9 (.slice A9 T3.length c9) T3, MatR S10 (.slice A10 T6.length c10) T6, MatR S11 (.slice A11 T8.length c11) T8]) ?_ ?_
    · refine fieldAddr_by (fa91_1 _) ?_
      refine H.load 3 rfl agg89 rfl ?_
      refine fieldAddr_by (fa91_0 _) ?_
      refine H.load 3 rfl agg3 rfl ?_
      refine call_fn (hc88 _ _ _ (H.ro 3 rfl) (H.rlt _ (.tail _ (.tail _ (.tail _ (.head _)))))) ?_
      rintro _ w9 ⟨v9, rfl, hn⟩
      obtain ⟨S11, H2, _⟩ := H.addM (.tail _ (.tail _ (.tail _ (.head _)))) hn
      obtain ⟨A11, c11, rfl⟩ := (H2.ro 0 rfl).form
      exact ⟨(.nilFunc, S11, A11, c11), ⟨rfl, rfl, trivial⟩, H2.weakenRO (by simp)⟩
    clear H
    rintro ⟨_, S11, A11, c11⟩ u w9 H
    replace H : Hp _ _ _ _ _ := H
    refine cut_rule (γ := Unit) _ rfl (fun _ => []) (fun _ w' => Hp.cl H w') ?_ ?_
    · refine fieldAddr_by (fa91_0 _) ?_
      refine H.load 2 rfl agg3 rfl ?_
      refine fieldAddr_by (fa91_0 _) ?_
      refine H.load 3 rfl agg3 rfl ?_
      refine cond_no (bne_self_eq_false _) ?_
      refine fieldAddr_by (fa91_0 _) ?_
      refine cond_no (bne_self_eq_false _) ?_
      refine H.load 1 rfl agg3 rfl ?_
      refine cond_no (bne_self_eq_false _) ?_
      refine fieldAddr_by (fa91_0 _) ?_
      refine cond_no (bne_self_eq_false _) ?_
      refine H.load 3 rfl agg3 rfl ?_
      iterate 3 refine cond_no (bne_self_eq_false _) ?_
      refine fieldAddr_by (fa91_0 _) ?_
      refine cond_no (bne_self_eq_false _) ?_
      refine H.load 0 rfl agg3 rfl ?_
      refine cond_no (bne_self_eq_false _) ?_
      refine fieldAddr_by (fa91_0 _) ?_
      refine cond_no (bne_self_eq_false _) ?_
      refine H.load 3 rfl agg3 rfl ?_
      iterate 3 refine cond_no (bne_self_eq_false _) ?_
      exact ⟨(), trivial, H⟩
    · rintro ⟨⟩ u w10 H1
      replace H : Hp _ _ _ _ _ := H1
      clear H1
      refine fieldAddr_by (fa91_1 _) ?_
      refine H.load 2 rfl agg89 rfl ?_
      refine call_fn (c85 T3 T3 _ _ _ hT3.1 hT3.2 hT3.2 (H.matAt 2 rfl) (H.matAt 4 rfl)) ?_ 
      rintro _ w13 ⟨rfl, hk13⟩ 
      replace H := H.same hk13 
      clear hk13
      iterate 7 refine cond_yes (decide_eq_true rfl) ?_
      refine bin_eql_bool Try.underlying4 ?_
      iterate 2 refine cond_yes (decide_eq_true rfl) ?_
      refine fieldAddr_by (fa91_1 _) ?_
      refine cond_yes (decide_eq_true rfl) ?_
      refine H.load 1 rfl agg89 rfl ?_
      iterate 2 refine cond_yes (decide_eq_true rfl) ?_
      refine call_fn (c85 T6 T6 _ _ _ hT6.1 hT6.2 hT6.2 (H.matAt 1 rfl) (H.matAt 5 rfl)) ?_ 
      rintro _ w29 ⟨rfl, hk29⟩ 
      replace H := H.same hk29 
      clear hk29
      iterate 4 refine cond_yes (decide_eq_true rfl) ?_
      refine bin_eql_bool Try.underlying4 ?_
      iterate 2 refine cond_yes (decide_eq_true rfl) ?_
      refine fieldAddr_by (fa91_1 _) ?_
      refine cond_yes (decide_eq_true rfl) ?_
      refine H.load 0 rfl agg89 rfl ?_
      iterate 2 refine cond_yes (decide_eq_true rfl) ?_
      refine call_fn (c85 T8 T8 _ _ _ hT8.1 hT8.2 hT8.2 (H.matAt 0 rfl) (H.matAt 6 rfl)) ?_ 
      rintro _ w42 ⟨rfl, hk42⟩ 
      replace H := H.same hk42 
      clear hk42
      iterate 4 refine cond_yes (decide_eq_true rfl) ?_
      refine bin_eql_bool Try.underlying4 ?_
      iterate 2 refine cond_yes (decide_eq_true rfl) ?_
      refine call_fn (c80 _) ?_ 
      rintro _ w50 ⟨rfl, hk50⟩ 
      replace H := H.same hk50 
      clear hk50
      refine cond_yes (decide_eq_true rfl) ?_
      exact ⟨rfl, H.keeps⟩
end Go.Proofs.Ytjebpngdinbckaa
end

section
/- ReduceAll. -/
namespace Go.Proofs.Ytjebpngdinbckaa
open Go.Dk
attribute [local irreducible] IntKind.wrap

theorem red_no {cols : Int} {R : Mat} (h : rightB cols R = false) : redT cols R = [] ∧ redR cols R = [] ∧ redC cols R = 0 ∧ redE cols R = 1 := by
  unfold redT redR redC redE; rw [h]; exact ⟨rfl, rfl, rfl, rfl⟩
theorem red_yes {n : Nat} {R : Mat} (h : rightB n R = true) : redT n R = risen n (endS n (R, [])).2 ∧ redR n R = (endS n (R, [])).1 ∧ redC n R = n ∧ redE n R = 0 := by
  unfold redT redR redC redE; rw [h, Int.toNat_natCast]; exact ⟨rfl, rfl, rfl, rfl⟩
theorem end_small {n : Nat} {R : Mat} (hR : RightM n R) (h : Small R) : Small (endS n (R, [])).1 := by
  have h1 := (end_inv hR).right
  have h2 : (endS n (R, [])).1.length ≤ R.length := run_len (s := (R, [])) _
  have := hR.le
  exact ⟨Nat.le_trans h2 h.1, fun r hr => by have := row_len h1 hr; omega⟩
theorem law14 (cols : Int) (R : Mat) (v1 : Value) (w : World) (hm : MatArg w v1 R) : Fun Try.prog 14 [mv cols v1] w fun v w' => v = .bool true ∧ Same w w' := by
  refine fun_of_W (N := 75) Try.func14 (by kernel_rfl) rfl rfl rfl (by simp) ?_
  have H := startM hm.mat (fun g hg => hg)
  obtain ⟨A, ca, hv1⟩ := hm.mat.form
  subst hv1
  refine H.box 91 (mv _ _) (cs := mc _ _) rfl ?_
  clear H
  intro g1 w1 H
  refine H.loadAll 0 rfl agg91 size91 ?_
  refine call_fn (c79 cols R _ _ hm.len (hm.mat.same H.keeps)) ?_
  rintro _ w2 ⟨rfl, hk⟩
  replace H := H.same hk
  clear hk
  refine cond_split (fun hg => ?_) (fun hg => ?_)
  · refine call_fn (c80 _) ?_
    rintro _ w3 ⟨rfl, hk⟩
    exact ⟨rfl, (H.same hk).keeps⟩
  obtain ⟨hl30, hr100, _⟩ := great_no hg
  have hl : R.length ≤ 1000000000 := by omega
  have hlr : ∀ r ∈ R, r.length ≤ 1000000000 := fun r hr => by have := hr100 r hr; omega
  refine cut_rule (γ := Option Addr × Nat × Nat × Value × (Nat → Prop)) _ rfl (fun (B, d, g4, _) => [(3, .slice B (redT cols R).length d), (4, .pointer (some ⟨g4, 0, none⟩)), (5, .int .i64 (redE cols R))])
    (fun (B, d, g4, v, S') w' => Hp w (fun _ => False) w' [blk g4 91 (mc (redC cols R) v), own 3 1 (.slice B (redT cols R).length d) (redT cols R).length (intsI (redT cols R)), blk g1 91 (mc cols (.slice A R.length ca))] [MatR S' v (redR cols R), MatR (fun g => g < w.heap.size) (.slice A R.length ca) R]) ?_ ?_
  · refine H.loadAll 0 rfl agg91 size91 ?_
    refine call_fn (c89 cols R _ _ _ hl hlr (H.ro 0 rfl) (H.rlt _ (.head _))) ?_
    rintro _ w3 ⟨B, d, v', S', rfl, HR, hS'⟩
    have H2 := H.merge HR fun r hr g hg => by
      rw [List.mem_singleton] at hr
      subst hr
      rcases hS' g hg with h | h
      · exact .inl h
      · exact .inr ⟨_, .head _, h⟩
    clear H HR
    obtain ⟨A1, c1, rfl⟩ := (H2.ro 0 rfl).form
    refine H2.alloc 91 zero91 rfl ?_
    clear H2
    intro g4 w4 H
    refine H.storeAll 0 rfl size91 rfl (fun v hv => mc_one v hv) ?_
    clear H
    intro w5 H
    exact ⟨(B, d, g4, _, S'), ⟨rfl, rfl, rfl, trivial⟩, H⟩
  clear H
  rintro ⟨B, d, g4, v, S'⟩ u w3 H
  replace H : Hp w (fun _ => False) w3 [blk g4 91 (mc (redC cols R) v), own 3 1 (.slice B (redT cols R).length d) (redT cols R).length (intsI (redT cols R)), blk g1 91 (mc cols (.slice A R.length ca))] [MatR S' v (redR cols R), MatR (fun g => g < w.heap.size) (.slice A R.length ca) R] := H
  obtain ⟨A4, c4, rfl⟩ := (H.ro 0 rfl).form
  refine fieldAddr_by (fa91_0 _) ?_
  refine H.load 2 rfl agg3 rfl ?_
  refine fieldAddr_by (fa91_1 _) ?_
  refine H.load 2 rfl agg89 rfl ?_
  refine call_fn (c84 cols R _ _ hl hlr (H.matAt 1 rfl)) ?_
  rintro _ w4 ⟨rfl, hk⟩
  replace H := H.same hk
  clear hk
  cases hr : rightB cols R with
  | false =>
    obtain ⟨e1, e2, e3, e4⟩ := red_no hr
    rw [e1, e2, e3] at H
    rw [e1, e2, e4]
    refine cond_yes rfl ?_
    refine len_sl Try.underlying32 ?_
    refine cond_yes rfl ?_
    refine fieldAddr_by (fa91_0 _) ?_
    refine cond_yes rfl ?_
    refine H.load 0 rfl agg3 rfl ?_
    iterate 3 refine cond_yes rfl ?_
    refine fieldAddr_by (fa91_1 _) ?_
    refine cond_yes rfl ?_
    refine H.load 0 rfl agg89 rfl ?_
    refine cond_yes rfl ?_
    refine len_sl Try.underlying89 ?_
    iterate 6 refine cond_yes rfl ?_
    refine call_fn (c80 _) ?_ 
    rintro _ w24 ⟨rfl, hk24⟩ 
    replace H := H.same hk24 
    clear hk24
    refine cond_yes rfl ?_
    exact ⟨rfl, H.keeps⟩
  | true =>
    have hright := rightB_iff.1 hr
    obtain ⟨n, rfl⟩ : ∃ n : Nat, cols = n := ⟨cols.toNat, by have := hright.ge; omega⟩
    have hsm := end_small hright ⟨hl, hlr⟩
    have hc90 := fun S v u h1 h2 => c90 n R v S u hl hright h1 h2
    obtain ⟨e1, e2, e3, e4⟩ := red_yes hr
    have htl := risen_len_le n (endS n (R, [])).2
    have hn4 : n ≤ 4000 := by have := hright.le; omega
    rw [e1, e2, e3] at H
    rw [e1, e2, e4]
    generalize risen n (endS n (R, [])).2 = tt at H hc90 htl ⊢
    generalize (endS n (R, [])).1 = rr at H hc90 hsm ⊢
    refine cond_no rfl ?_
    refine cut_rule (γ := Option Addr × Nat × Option Addr × Nat × (Nat → Prop)) _ rfl (fun (B, d, A, c, _) => [(6, .slice B tt.length d), (7, .slice A rr.length c)])
      (fun (B6, d6, A7, c7, S7) w' => Hp w (fun _ => False) w' [own 3 1 (.slice B6 tt.length d6) tt.length (intsI tt), blk g4 91 (mc n (.slice A4 rr.length c4)), own 3 1 (.slice B tt.length d) tt.length (intsI tt), blk g1 91 (mc n (.slice A R.length ca))] [MatR S7 (.slice A7 rr.length c7) rr, MatR S' (.slice A4 rr.length c4) rr, MatR (fun g => g < w.heap.size) (.slice A R.length ca) R]) ?_ ?_
    · refine fieldAddr_by (fa91_1 _) ?_
      refine H.load 2 rfl agg89 rfl ?_
      refine fieldAddr_by (fa91_0 _) ?_
      refine H.load 2 rfl agg3 rfl ?_
      refine call_fn (hc90 _ _ _ (H.ro 1 rfl) (H.rlt _ (.tail _ (.head _)))) ?_
      rintro _ w5 ⟨B6, d6, v7, S7, rfl, HR, hS7⟩
      have H2 := H.merge HR fun r hr g hg => by
        rw [List.mem_singleton] at hr
        subst hr
        rcases hS7 g hg with h | h
        · exact .inl h
        · exact .inr ⟨_, .tail _ (.head _), h⟩
      obtain ⟨A7, c7, rfl⟩ := (H2.ro 0 rfl).form
      exact ⟨(B6, d6, A7, c7, S7), ⟨rfl, rfl, trivial⟩, H2⟩
    clear H
    rintro ⟨B6, d6, A7, c7, S7⟩ u w5 H
    replace H : Hp _ _ _ _ _ := H
    refine call_fn (c91 tt tt _ _ _ _ _ (by omega) (by omega) (own_Sl (H.get 2 rfl)) (own_Sl (H.get 0 rfl))) ?_ 
    rintro _ w6 ⟨rfl, hk6⟩ 
    replace H := H.same hk6 
    clear hk6
    refine cond_yes (decide_eq_true rfl) ?_
    refine fieldAddr_by (fa91_1 _) ?_
    refine cond_yes (decide_eq_true rfl) ?_
    refine H.load 1 rfl agg89 rfl ?_
    iterate 2 refine cond_yes (decide_eq_true rfl) ?_
    refine call_fn (c85 rr rr _ _ _ hsm.1 hsm.2 hsm.2 (H.matAt 1 rfl) (H.matAt 0 rfl)) ?_ 
    rintro _ w13 ⟨rfl, hk13⟩ 
    replace H := H.same hk13 
    clear hk13
    iterate 2 refine cond_yes (decide_eq_true rfl) ?_
    refine fieldAddr_by (fa91_0 _) ?_
    refine cond_yes (decide_eq_true rfl) ?_
    refine H.load 1 rfl agg3 rfl ?_
    refine cond_yes (decide_eq_true rfl) ?_
    refine fieldAddr_by (fa91_0 _) ?_
    refine cond_yes (decide_eq_true rfl) ?_
    refine H.load 3 rfl agg3 rfl ?_
    iterate 6 refine cond_yes (decide_eq_true rfl) ?_
    refine call_fn (c80 _) ?_ 
    rintro _ w29 ⟨rfl, hk29⟩ 
    replace H := H.same hk29 
    clear hk29
    refine cond_yes (decide_eq_true rfl) ?_
    exact ⟨rfl, H.keeps⟩
end Go.Proofs.Ytjebpngdinbckaa
end

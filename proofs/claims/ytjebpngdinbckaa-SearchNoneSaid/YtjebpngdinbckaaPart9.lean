import Derived.Test.YtjebpngdinbckaaPart8
/- Lemmas, part 9: what the proof of the row uses. -/
section
/- SearchNone. -/
namespace Go.Proofs.Ytjebpngdinbckaa
open Go.Dk
attribute [local irreducible] IntKind.wrap

theorem few_kept {n : Nat} {R : Mat} (hR : RightM n R) {ks K : List Int} (hk : ∀ k ∈ ks, k ∈ K) (hs : SolvesM R ks) {m : Nat} (hb : IsBest n R (m : Int)) : m ≤ K.length := by
  have h1 : SolvesM R K := fun r hr => by
    obtain ⟨k, hkr, hks⟩ := hs r hr
    exact ⟨k, hkr, hk k hks⟩
  have h2 := risen_solves hR h1
  have h3 := risen_le n K
  rcases hb with ⟨h4, _⟩ | ⟨S, _, _, h4, h5⟩
  · omega
  · have := h5 _ (risen_col n K) h2
    omega
theorem law26 (cols : Int) (R : Mat) (v1 v2 : Value) (ks : List Int) (w : World) (hm : MatArg w v1 R) (hk2 : IntsAt w v2 ks) : Fun Try.prog 26 [mv cols v1, v2] w fun v w' => v = .bool true ∧ Same w w' := by
  obtain ⟨B2, d2, rfl, hkl0, hko, hks⟩ := hk2
  refine fun_of_W (N := 96) Try.func26 (by kernel_rfl) rfl rfl rfl (by simp) ?_
  have H := startM hm.mat (fun g hg => hg)
  obtain ⟨A, ca, hv1⟩ := hm.mat.form
  subst hv1
  refine cut_rule (γ := Nat) _ rfl (fun g1 => [(2, .pointer (some ⟨g1, 0, none⟩))]) (fun g1 w' => Hp w (fun _ => False) w' [blk g1 91 (mc cols (.slice A R.length ca))] [MatR (fun g => g < w.heap.size) (.slice A R.length ca) R]) ?_ ?_
  · refine H.box 91 (mv _ _) (cs := mc _ _) rfl ?_
    clear H
    intro g1 w1 H
    exact ⟨g1, ⟨rfl, trivial⟩, H⟩
  clear H
  rintro g1 u w1 H
  replace H : Hp _ _ _ _ _ := H
  refine cut_rule (γ := Unit) _ rfl (fun _ => []) (fun _ w' => (greatB cols R = false ∧ cols ≤ 12 ∧ ks.length ≤ 100) ∧ Hp w (fun _ => False) w' [blk g1 91 (mc cols (.slice A R.length ca))] [MatR (fun g => g < w.heap.size) (.slice A R.length ca) R]) ?_ ?_
  · refine H.loadAll 0 rfl agg91 size91 ?_
    refine call_fn (c118 cols R _ _ hm.len (hm.mat.same H.keeps)) ?_
    rintro _ w2 ⟨rfl, hk⟩
    replace H := H.same hk
    clear hk
    cases hg : greatB cols R with
    | true =>
      iterate 9 refine cond_yes rfl ?_
      refine call_fn (c119 _) ?_ 
      rintro _ w12_ ⟨rfl, hk12_⟩ 
      replace H := H.same hk12_ 
      clear hk12_
      exact ⟨rfl, H.keeps⟩
    | false =>
      refine cond_no rfl ?_
      refine fieldAddr_by (fa91_0 _) ?_
      refine cond_no rfl ?_
      refine H.load 0 rfl agg3 rfl ?_
      iterate 2 refine cond_no rfl ?_
      refine cond_dec (fun h9 => ?_) (fun h9 => ?_)
      · refine cond_yes (decide_eq_true (by assumption)) ?_
        iterate 2 refine cond_yes (decide_eq_true (by assumption)) ?_
        refine cond_yes rfl ?_
        refine call_fn (c119 _) ?_ 
        rintro _ w14_ ⟨rfl, hk14_⟩ 
        replace H := H.same hk14_ 
        clear hk14_
        exact ⟨rfl, H.keeps⟩
      · refine cond_no (decide_eq_false (by assumption)) ?_
        refine len_sl Try.underlying32 ?_
        iterate 2 refine cond_no (decide_eq_false (by assumption)) ?_
        refine cond_dec (fun h20 => ?_) (fun h20 => ?_)
        · refine call_fn (c119 _) ?_ 
          rintro _ w21_ ⟨rfl, hk21_⟩ 
          replace H := H.same hk21_ 
          clear hk21_
          exact ⟨rfl, H.keeps⟩
        · exact ⟨(), trivial, ⟨rfl, by omega, by omega⟩, H⟩
  clear H
  rintro ⟨⟩ u w2 ⟨⟨hg, hc12, hkl⟩, H⟩
  replace H : Hp _ _ _ _ _ := H
  obtain ⟨hl30, hr100, _⟩ := great_no hg
  have hl : R.length ≤ 1000000000 := by omega
  have hlr : ∀ r ∈ R, r.length ≤ 1000000000 := fun r hr => by have := hr100 r hr; omega
  refine cut_rule (γ := Option Addr × Nat × List Int × Int × Int) _ rfl (fun (B, d, G, s, e) => [(5, .slice B G.length d), (6, .int .i64 s), (7, .int .i64 e)]) (fun (B, d, G, s, e) w' => FewR cols R 8192 G s e ∧ Hp w (fun _ => False) w' [own 3 1 (.slice B G.length d) G.length (intsI G), blk g1 91 (mc cols (.slice A R.length ca))] [MatR (fun g => g < w.heap.size) (.slice A R.length ca) R]) ?_ ?_
  · refine H.loadAll 0 rfl agg91 size91 ?_
    refine call_fn (c125 cols R _ 8192 _ _ (by omega) hlr (by decide) (fun hr => ⟨by omega, ?_⟩) (H.ro 0 rfl) (H.rlt _ (.head _))) ?_
    · exact Nat.le_trans (Nat.pow_le_pow_right (n := 2) (by decide) (show cols.toNat ≤ 12 by omega)) (by decide)
    rintro _ w4 ⟨B, d, G, s, e, rfl, hG, hn⟩
    exact ⟨(B, d, G, s, e), ⟨rfl, rfl, rfl, trivial⟩, hG, H.addNew hn⟩
  clear H
  rintro ⟨B, d, G, s, e⟩ u w4 ⟨hG, H⟩
  replace H : Hp _ _ _ _ _ := H
  refine cut_rule (γ := Unit) _ rfl (fun _ => [(8, .int .i64 (if rightB cols R then (boundS R [] : Nat) else 0 : Int)), (9, .int .i64 (if rightB cols R then 0 else 1))]) (fun _ w' => Hp w (fun _ => False) w' [own 3 1 (.slice B G.length d) G.length (intsI G), blk g1 91 (mc cols (.slice A R.length ca))] [MatR (fun g => g < w.heap.size) (.slice A R.length ca) R]) ?_ ?_
  · refine H.loadAll 1 rfl agg91 size91 ?_
    refine call_fn (c120 cols R _ _ hl hlr (H.matAt 0 rfl)) ?_
    rintro _ w3 ⟨rfl, hk⟩
    replace H := H.same hk
    clear hk
    exact ⟨(), ⟨rfl, rfl, trivial⟩, H⟩
  clear H
  rintro ⟨⟩ u w3 H
  replace H : Hp _ _ _ _ _ := H
  refine cut_rule (γ := Unit) _ rfl (fun _ => []) (fun _ w' => (rightB cols R = true ∧ e = 0 ∧ IsBest cols.toNat R (G.length : Int) ∧ SolvesM R G) ∧ Hp w (fun _ => False) w' [own 3 1 (.slice B G.length d) G.length (intsI G), blk g1 91 (mc cols (.slice A R.length ca))] [MatR (fun g => g < w.heap.size) (.slice A R.length ca) R]) ?_ ?_
  · rcases hG with ⟨h1, rfl, rfl, rfl⟩ | ⟨h1, h2, rfl, rfl, rfl⟩ | ⟨h1, _, rfl, _, _, h3, h4⟩
    · refine cond_yes rfl ?_
      refine len_sl Try.underlying32 ?_
      iterate 9 refine cond_yes rfl ?_
      refine call_fn (c119 _) ?_ 
      rintro _ w15_ ⟨rfl, hk15_⟩ 
      replace H := H.same hk15_ 
      clear hk15_
      refine cond_yes rfl ?_
      exact ⟨rfl, H.keeps⟩
    · refine cond_yes rfl ?_
      refine len_sl Try.underlying32 ?_
      iterate 3 refine cond_yes rfl ?_
      iterate 2 refine cond_no rfl ?_
      refine cond_yes rfl ?_
      refine cond_no rfl ?_
      iterate 2 refine cond_yes rfl ?_
      refine call_fn (c119 _) ?_ 
      rintro _ w15_ ⟨rfl, hk15_⟩ 
      replace H := H.same hk15_ 
      clear hk15_
      refine cond_yes rfl ?_
      exact ⟨rfl, H.keeps⟩
    · refine cond_no rfl ?_
      exact ⟨(), trivial, ⟨h1, rfl, h3, h4⟩, H⟩
  clear H hG
  rintro ⟨⟩ u w5 ⟨⟨hr, rfl, hbest, hsol⟩, H⟩
  replace H : Hp _ _ _ _ _ := H
  have hright := rightB_iff.1 hr
  obtain ⟨n, rfl⟩ : ∃ n : Nat, cols = n := ⟨cols.toNat, by have := hright.ge; omega⟩
  rw [Int.toNat_natCast] at hbest
  refine cut_rule (γ := Unit) _ rfl (fun _ => [(10, .slice none 0 0)]) (fun _ w' => Hp w (fun _ => False) w' [own 3 1 (.slice B G.length d) G.length (intsI G), blk g1 91 (mc n (.slice A R.length ca))] [MatR (fun g => g < w.heap.size) (.slice A R.length ca) R]) ⟨(), ⟨rfl, trivial⟩, H⟩ ?_
  clear H
  rintro ⟨⟩ u w6 H
  replace H : Hp _ _ _ _ _ := H
  replace H := H.ownNil 3 1
  refine cut_rule (γ := Option Addr × Nat × List Int) _ rfl (fun (B3, d3, K) => [(10, .slice B3 K.length d3)]) (fun (B3, d3, K) w' => (∀ k ∈ ks, k ∈ K) ∧ Hp w (fun _ => False) w' [own 3 1 (.slice B3 K.length d3) K.length (intsI K), own 3 1 (.slice B G.length d) G.length (intsI G), blk g1 91 (mc n (.slice A R.length ca))] [MatR (fun g => g < w.heap.size) (.slice A R.length ca) R]) ?_ ?_
  · refine loop_rule (γ := Nat × Option Addr × Nat × List Int) _ rfl (fun (i, B3, d3, K) => [(11, .int .i64 (i : Int)), (10, .slice B3 K.length d3)])
      (fun (i, B3, d3, K) w' => (i ≤ ks.length ∧ (∀ k ∈ ks.take i, k ∈ K) ∧ K.length ≤ i) ∧ Hp w (fun _ => False) w' [own 3 1 (.slice B3 K.length d3) K.length (intsI K), own 3 1 (.slice B G.length d) G.length (intsI G), blk g1 91 (mc n (.slice A R.length ca))] [MatR (fun g => g < w.heap.size) (.slice A R.length ca) R])
      (fun (i, _) => ks.length - i) (0, none, 0, []) ⟨rfl, rfl, trivial⟩ ⟨⟨Nat.zero_le _, by simp, by simp⟩, H⟩ ?_
    clear H
    rintro ⟨i, B3, d3, K⟩ u w7 ⟨⟨hi, hK, hKl⟩, H⟩
    replace H : Hp _ _ _ _ _ := H
    refine len_sl Try.underlying32 ?_
    refine cond_dec (fun h8 => ?_) (fun h8 => ?_)
    · obtain ⟨k, hk⟩ : ∃ k, ks[i]? = some k := ⟨_, List.getElem?_eq_getElem (by omega)⟩
      obtain ⟨gk, ok, rfl⟩ := hks.A (by omega)
      have hgk : (intsI ks)[i]? = some (.int .i64 k) := by rw [intsI, List.getElem?_map, hk]; rfl
      have htk : ks.take (i + 1) = ks.take i ++ [k] := by rw [List.take_add_one, hk]; rfl
      refine cut_rule (γ := Option Addr × Nat × List Int) _ rfl (fun (B3, d3, K) => [(10, .slice B3 K.length d3)]) (fun (B3, d3, K) w' => ((∀ k ∈ ks.take (i + 1), k ∈ K) ∧ K.length ≤ i + 1) ∧ Hp w (fun _ => False) w' [own 3 1 (.slice B3 K.length d3) K.length (intsI K), own 3 1 (.slice B G.length d) G.length (intsI G), blk g1 91 (mc n (.slice A R.length ca))] [MatR (fun g => g < w.heap.size) (.slice A R.length ca) R]) ?_ ?_
      · refine idxAddr_sl Try.underlying32 (s := 1) size3 i rfl (by omega) (o' := ok + i) (by omega) ?_
        refine H.loadSl (i := i) hks agg3 _ rfl hgk ?_
        refine call_fn (c127 K B3 d3 k _ (by omega) (own_Sl (H.get 0 rfl))) ?_
        rintro _ w8 ⟨rfl, hk8⟩
        replace H := H.same hk8
        clear hk8
        refine cond_split (fun hb => ?_) (fun hb => ?_)
        · refine idxAddr_sl Try.underlying32 (s := 1) size3 i rfl (by omega) (o' := ok + i) (by omega) ?_
          refine H.loadSl (i := i) hks agg3 _ rfl hgk ?_
          refine H.buildOne T32 rfl ?_
          clear H
          intro g9 w9 H
          refine H.appendOne 0 T32 rfl rfl (by omega) (by omega) ?_
          clear H
          intro B4 d4 w10 H
          have e1 : K.length + 1 = (K ++ [k]).length := by simp
          rw [e1, ← intsI_snoc] at H
          refine ⟨(B4, d4, K ++ [k]), ⟨by rw [← e1]; rfl, trivial⟩, ⟨fun x hx => ?_, by rw [← e1]; omega⟩, H⟩
          rw [htk] at hx
          rcases List.mem_append.1 hx with hx | hx
          · exact List.mem_append_left _ (hK x hx)
          · exact List.mem_append_right _ hx
        · refine ⟨(B3, d3, K), ⟨rfl, trivial⟩, ⟨fun x hx => ?_, by omega⟩, H⟩
          rw [htk] at hx
          rcases List.mem_append.1 hx with hx | hx
          · exact hK x hx
          · rw [List.mem_singleton] at hx
            subst hx
            simpa using hb
      · clear H hK hKl
        rintro ⟨B4, d4, K4⟩ u w8 ⟨⟨hK, hKl⟩, H⟩
        exact ⟨(i + 1, B4, d4, K4), by show ks.length - (i + 1) < ks.length - i; omega, ⟨up (by omega), rfl, trivial⟩, ⟨by show i + 1 ≤ ks.length; omega, hK, hKl⟩, H⟩
    · rw [List.take_of_length_le (by omega)] at hK
      exact ⟨(B3, d3, K), ⟨rfl, trivial⟩, hK, H⟩
  clear H
  rintro ⟨B3, d3, K⟩ u w7 ⟨hK, H⟩
  replace H : Hp _ _ _ _ _ := H
  have hkept := fun hs => few_kept hright hK hs hbest
  have hbnd := bound_least hsol
  have e1 : (if rightB (n : Int) R = true then ((boundS R [] : Nat) : Int) else 0) = ((boundS R [] : Nat) : Int) := if_pos hr
  have e2 : (if rightB (n : Int) R = true then (0 : Int) else 1) = 0 := if_pos hr
  have hc93 := fun w5 h1 h2 => c93 n R (.slice A R.length ca) ks B2 d2 w5 hl hlr (by omega) h1 h2
  rw [hr] at hc93
  have hle : (if rightB (n : Int) R = true then ((boundS R [] : Nat) : Int) else 0) ≤ (G.length : Int) := by rw [e1]; omega
  cases hsv : solvesB R ks with
  | true =>
    have hge : (K.length : Int) ≥ (G.length : Int) := by have := hkept (solvesB_iff.1 hsv); omega
    rw [hsv] at hc93
    refine cond_yes (beq_iff_eq.2 e2) ?_
    iterate 2 refine cond_yes (beq_iff_eq.2 e2) ?_
    refine len_sl Try.underlying32 ?_
    iterate 2 refine cond_yes (beq_iff_eq.2 e2) ?_
    refine cond_yes (decide_eq_true hle) ?_
    refine H.loadAll 2 rfl agg91 size91 ?_
    iterate 2 refine cond_yes (decide_eq_true hle) ?_
    refine call_fn (hc93 _ (H.matAt 0 rfl) (hks.same H.keeps)) ?_ 
    rintro _ w17_ ⟨rfl, hk17_⟩ 
    replace H := H.same hk17_ 
    clear hk17_
    iterate 2 refine cond_yes (decide_eq_true hle) ?_
    iterate 2 refine cond_no rfl ?_
    refine len_sl Try.underlying32 ?_
    iterate 2 refine cond_no rfl ?_
    refine len_sl Try.underlying32 ?_
    refine cond_no rfl ?_
    refine cond_yes (decide_eq_true hle) ?_
    refine cond_no rfl ?_
    refine cond_yes (decide_eq_true hle) ?_
    refine cond_yes (decide_eq_true hge) ?_
    refine call_fn (c119 _) ?_ 
    rintro _ w31_ ⟨rfl, hk31_⟩ 
    replace H := H.same hk31_ 
    clear hk31_
    refine cond_yes (decide_eq_true hge) ?_
    exact ⟨rfl, H.keeps⟩
  | false =>
    rw [hsv] at hc93
    refine cond_yes (beq_iff_eq.2 e2) ?_
    iterate 2 refine cond_yes (beq_iff_eq.2 e2) ?_
    refine len_sl Try.underlying32 ?_
    iterate 2 refine cond_yes (beq_iff_eq.2 e2) ?_
    refine cond_yes (decide_eq_true hle) ?_
    refine H.loadAll 2 rfl agg91 size91 ?_
    iterate 2 refine cond_yes (decide_eq_true hle) ?_
    refine call_fn (hc93 _ (H.matAt 0 rfl) (hks.same H.keeps)) ?_ 
    rintro _ w17_ ⟨rfl, hk17_⟩ 
    replace H := H.same hk17_ 
    clear hk17_
    iterate 2 refine cond_yes (decide_eq_true hle) ?_
    iterate 5 refine cond_yes rfl ?_
    refine cond_yes (decide_eq_true hle) ?_
    refine cond_yes rfl ?_
    refine cond_yes (decide_eq_true hle) ?_
    refine cond_yes rfl ?_
    refine call_fn (c119 _) ?_ 
    rintro _ w29_ ⟨rfl, hk29_⟩ 
    replace H := H.same hk29_ 
    clear hk29_
    refine cond_yes rfl ?_
    exact ⟨rfl, H.keeps⟩
end Go.Proofs.Ytjebpngdinbckaa
end

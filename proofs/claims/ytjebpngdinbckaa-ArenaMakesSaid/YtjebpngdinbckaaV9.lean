import Derived.Test.YtjebpngdinbckaaA3
import Derived.Test.YtjebpngdinbckaaV8
/- The statements of chapter 5: ArenaKeeps. -/
namespace Go.Proofs.Ytjebpngdinbckaa
open Go.Dk
attribute [local irreducible] IntKind.wrap

theorem size66 : sizeT Try.prog 66 = some 5 := by kernel_rfl
theorem size78 : sizeT Try.prog 78 = some 4 := by kernel_rfl
theorem agg78 : aggT Try.prog 78 = some true := by kernel_rfl
theorem agg62 : aggT Try.prog 62 = some false := by kernel_rfl
theorem fa66_0 (g o : Nat) (w : World) : (Instr.fieldAt 66 (.pointer (some ⟨g, o, none⟩)) 0).run Try.prog w = .ok (.pointer (some ⟨g, o, none⟩)) w := by kernel_rfl
theorem fa66_1 (g o : Nat) (w : World) : (Instr.fieldAt 66 (.pointer (some ⟨g, o, none⟩)) 1).run Try.prog w = .ok (.pointer (some ⟨g, o + 1, none⟩)) w := by kernel_rfl
theorem fa66_2 (g o : Nat) (w : World) : (Instr.fieldAt 66 (.pointer (some ⟨g, o, none⟩)) 2).run Try.prog w = .ok (.pointer (some ⟨g, o + 2, none⟩)) w := by kernel_rfl
theorem fa66_3 (g o : Nat) (w : World) : (Instr.fieldAt 66 (.pointer (some ⟨g, o, none⟩)) 3).run Try.prog w = .ok (.pointer (some ⟨g, o + 3, none⟩)) w := by kernel_rfl
theorem fa66_4 (g o : Nat) (w : World) : (Instr.fieldAt 66 (.pointer (some ⟨g, o, none⟩)) 4).run Try.prog w = .ok (.pointer (some ⟨g, o + 4, none⟩)) w := by kernel_rfl
theorem fa78_0 (g : Nat) (w : World) : (Instr.fieldAt 78 (.pointer (some ⟨g, 0, none⟩)) 0).run Try.prog w = .ok (.pointer (some ⟨g, 0, none⟩)) w := by kernel_rfl
theorem fa78_1 (g : Nat) (w : World) : (Instr.fieldAt 78 (.pointer (some ⟨g, 0, none⟩)) 1).run Try.prog w = .ok (.pointer (some ⟨g, 1, none⟩)) w := by kernel_rfl
theorem fa78_2 (g : Nat) (w : World) : (Instr.fieldAt 78 (.pointer (some ⟨g, 0, none⟩)) 2).run Try.prog w = .ok (.pointer (some ⟨g, 2, none⟩)) w := by kernel_rfl
theorem fa78_3 (g : Nat) (w : World) : (Instr.fieldAt 78 (.pointer (some ⟨g, 0, none⟩)) 3).run Try.prog w = .ok (.pointer (some ⟨g, 3, none⟩)) w := by kernel_rfl
theorem ask_1 {la : List AskV} {i : Nat} {a : AskV} (h : la[i]? = some a) : (flat encA la)[i * 5 + 1]? = some (.int .i64 a.l) := flat_cell encA_length h 1 (by decide)
theorem ask_2 {la : List AskV} {i : Nat} {a : AskV} (h : la[i]? = some a) : (flat encA la)[i * 5 + 2]? = some (.int .i64 a.lo) := flat_cell encA_length h 2 (by decide)
theorem ask_3 {la : List AskV} {i : Nat} {a : AskV} (h : la[i]? = some a) : (flat encA la)[i * 5 + 3]? = some (.int .i64 a.hi) := flat_cell encA_length h 3 (by decide)
def encW (n : Nd) : List Value := [.int .i64 n.l, .int .i64 n.lo, .int .i64 n.hi, .bool false]
theorem encW_length (n : Nd) : (encW n).length = 4 := rfl
theorem encW_one (n : Nd) : ∀ v ∈ encW n, v.oneCell' = true := by
  intro v hv
  simp [encW] at hv
  rcases hv with rfl | rfl | rfl | rfl <;> rfl
def z78 : Value := .agg #[.int .i64 0, .int .i64 0, .int .i64 0, .bool false]
theorem zero78 : zeroT Try.prog 78 = some z78 := by kernel_rfl
theorem T62 : SlT Try.prog 62 78 z78 4 32 := ⟨Try.underlying62, by kernel_rfl, rfl, by decide⟩
theorem build78 {a b c : Int} {w : World} {kk : Value → World → Prop} (h : kk (.agg #[.int .i64 a, .int .i64 b, .int .i64 c, .bool false]) w) : buildK Try.prog 78 [(0, .int .i64 a), (1, .int .i64 b), (2, .int .i64 c)] w kk :=
  build_by (fun w => by kernel_rfl) h
theorem reachL_mem {A : Ar} (h : ArInv A) {id : Int} {y : Nat} (hy : y ∈ reachL A id) : ∃ x n, y = x + 2 ∧ slot A x = some n ∧ Rch A id x := by
  unfold reachL reachTo at hy
  obtain ⟨x, hx, rfl⟩ := List.mem_map.1 hy
  have hx := (List.mem_filter.1 hx).2
  have hs := mark_spec h 26 id (List.replicate A.length false) (by have := lvlA_ge A id; omega) (by simp) (fun i n hi => by rw [mb_replicate] at hi; cases hi)
  have hr : Rch A id x := by
    rcases (hs x).1 hx with h' | h'
    · rw [mb_replicate] at h'; cases h'
    · exact h'
  obtain ⟨n, hn⟩ := hr.slot
  exact ⟨x, n, rfl, hn, hr⟩
theorem reachL_len (A : Ar) (id : Int) : (reachL A id).length ≤ A.length := reachTo_le _ _
theorem ok_sweep {room : Int} {A : Ar} (h : ArOk room A) (ks : List Int) : ArOk room (sweepA A ks) :=
  ⟨inv_sweep h.inv ks, by rw [show (sweepA A ks).length = A.length from sweepTo_length _ _ _]; exact h.len, h.room⟩
/-- What was kept: nodes, and their ids. -/
def Good (A : Ar) (ks : List Int) (W : List Nd) (I : List Nat) : Prop := ∀ (j : Nat) (n : Nd), W[j]? = some n → ∃ x, I[j]? = some (x + 2) ∧ slot A x = some n ∧ ∃ k ∈ ks, Rch A k x
theorem good_nil (A : Ar) (ks : List Int) : Good A ks [] [] := by intro j n h; simp at h
theorem good_snoc {A : Ar} {ks : List Int} {W : List Nd} {I : List Nat} (h : Good A ks W I) (hl : W.length = I.length) {x : Nat} {n : Nd} (hs : slot A x = some n) {k : Int} (hk : k ∈ ks) (hr : Rch A k x) : Good A ks (W ++ [n]) (I ++ [x + 2]) := by
  intro j m hj
  by_cases hlt : j < W.length
  · rw [List.getElem?_append_left hlt] at hj
    obtain ⟨y, h1, h2, h3⟩ := h j m hj
    exact ⟨y, by rw [List.getElem?_append_left (by omega)]; exact h1, h2, h3⟩
  · rw [List.getElem?_append_right (by omega)] at hj
    have : j - W.length = 0 := by
      have := (List.getElem?_eq_some_iff.1 hj).1; simp at this; omega
    rw [this] at hj
    simp at hj; subst hj
    exact ⟨x, by rw [List.getElem?_append_right (by omega), ← hl, this]; rfl, hs, k, hk, hr⟩
theorem good_make {A : Ar} {room : Int} (h : ArOk room A) {x : Nat} {n : Nd} (hs : slot A x = some n) : mkA room A n.l n.lo n.hi = (A, ((x + 2 : Nat) : Int), 0) := by
  have hl := h.inv.lev x n hs
  unfold mkA
  rw [if_neg (by omega)]
  simp only [Int.toNat_natCast]
  rw [(findA_some h.inv.uniq).2 hs]
theorem ent10 : enters Try.prog 10 = true := by kernel_rfl
theorem law10_b (room : Int) (hr : room < 0 ∨ 20000 < room) (v1 : Value) (ks : List Int) (B : Option Addr) (c : Nat) (w : World) : Fun Try.prog 10 [.int .i64 room, v1, .slice B ks.length c] w fun v w' => v = .bool true ∧ Same w w' := by
  refine fun_of_W (N := 204) Try.func10 ent10 rfl rfl rfl (by simp) ?_
  have H := Hp.start0 w
  refine call_fn (c64_b _ (by assumption) _) ?_
  rintro _ w1 ⟨rfl, hk⟩
  replace H := H.same hk
  clear hk
  iterate 7 refine cond_yes rfl ?_
  refine bin_eql59z ?_
  iterate 6 refine cond_yes rfl ?_
  refine call_fn (c65 _) ?_
  rintro _ w16 ⟨rfl, hk⟩
  replace H := H.same hk
  clear hk
  refine cond_yes rfl ?_
  exact ⟨rfl, H.keeps⟩
theorem law10_l (room : Int) (h0 : 0 ≤ room) (h1 : room ≤ 20000) (v1 : Value) (ks : List Int) (hk20 : 20 < ks.length) (B : Option Addr) (c : Nat) (w : World) : Fun Try.prog 10 [.int .i64 room, v1, .slice B ks.length c] w fun v w' => v = .bool true ∧ Same w w' := by
  refine fun_of_W (N := 204) Try.func10 ent10 rfl rfl rfl (by simp) ?_
  have H := Hp.start0 w
  refine call_fn (c64_a _ h0 h1 _) ?_
  rintro _ w2 ⟨g, r, rfl, hn⟩
  replace H := H.addNew hn
  clear hn
  iterate 2 refine cond_no rfl ?_
  refine len_sl Try.underlying32 ?_
  iterate 2 refine cond_no rfl ?_
  refine cond_yes (decide_eq_true (by omega)) ?_
  iterate 5 refine cond_no rfl ?_
  refine len_sl Try.underlying32 ?_
  iterate 2 refine cond_no rfl ?_
  refine cond_yes (decide_eq_true (by omega)) ?_
  refine call_fn (c65 _) ?_
  rintro _ w18 ⟨rfl, hk⟩
  replace H := H.same hk
  clear hk
  refine cond_yes (decide_eq_true (by omega)) ?_
  exact ⟨rfl, H.keeps⟩
theorem law10_m (room : Int) (h0 : 0 ≤ room) (h1 : room ≤ 20000) (la : List AskV) (B1 : Option Addr) (c1 : Nat) (ks : List Int) (hk20 : ks.length ≤ 20) (B : Option Addr) (c : Nat) (w : World)
    (hla : ∀ a ∈ la, AskAt w a) (hs1 : Sl w (.slice B1 la.length c1) 5 la.length (flat encA la)) (hks : ∀ k ∈ ks, okI k) (hs2 : Sl w (.slice B ks.length c) 1 ks.length (intsI ks)) : Fun Try.prog 10 [.int .i64 room, .slice B1 la.length c1, .slice B ks.length c] w fun v w' => v = .bool true ∧ Same w w' := by
  refine fun_of_W (N := 204) Try.func10 ent10 rfl rfl rfl (by simp) ?_
  have H := Hp.start0 w
  refine call_fn (c64_a _ h0 h1 _) ?_
  rintro _ w2 ⟨g, r, rfl, hn⟩
  replace H := H.addNew hn
  clear hn
  iterate 2 refine cond_no rfl ?_
  refine len_sl Try.underlying32 ?_
  iterate 2 refine cond_no rfl ?_
  refine cond_no (decide_eq_false (by omega)) ?_
  refine bin_eql59 ?_
  refine cond_no rfl ?_
  refine cut_rule (γ := Value × Ar) _ rfl (fun _ => []) (fun (sv, A) w' => ArOk room A ∧ Hp w (fun _ => False) w' [arR g r sv room A] []) ?_ ?_
  · refine loop_rule (γ := Nat × Value × Ar) _ rfl (fun (i, sv, A) => [(9, .int .i64 (i : Int))])
      (fun (i, sv, A) w' => (i ≤ 60 ∧ ArOk room A) ∧ Hp w (fun _ => False) w' [arR g r sv room A] []) (fun (i, _, _) => 60 - i) (0, .slice none 0 0, []) ⟨rfl, trivial⟩ ⟨⟨Nat.zero_le _, ok_nil h0 h1⟩, H⟩ ?_
    clear H
    rintro ⟨i, sv, A⟩ u w3 ⟨⟨hi, hok⟩, H⟩
    refine len_sl Try.underlying58 ?_
    by_cases hgo : i < la.length ∧ i < 60
    · obtain ⟨g1, o1, rfl⟩ := hs1.A (by omega)
      obtain ⟨a, ha⟩ : ∃ a, la[i]? = some a := ⟨_, List.getElem?_eq_getElem hgo.1⟩
      obtain ⟨_, ka, kb, kc, _⟩ := hla a (List.mem_of_getElem? ha)
      iterate 4 refine cond_yes (decide_eq_true (by omega)) ?_
      refine H.draw fol (by kernel_rfl) ?_
      clear H
      intro w8 H
      refine quiet _ (fun w H => idxAddr_sl Try.underlying58 size66 i rfl hgo.1 (o' := o1 + i * 5) rfl ⟨rfl, rfl⟩) ?_
      refine quiet _ (fun w H => fieldAddr_by (fa66_1 _ _) ⟨rfl, rfl⟩) ?_
      refine quiet _ (fun w H => H.loadSl (i := i * 5 + 1) hs1 agg3 _ (by omega) (ask_1 ha) ⟨rfl, rfl⟩) ?_
      refine quiet _ (fun w H => idxAddr_sl Try.underlying58 size66 i rfl hgo.1 (o' := o1 + i * 5) rfl ⟨rfl, rfl⟩) ?_
      refine quiet _ (fun w H => fieldAddr_by (fa66_2 _ _) ⟨rfl, rfl⟩) ?_
      refine quiet _ (fun w H => H.loadSl (i := i * 5 + 2) hs1 agg3 _ (by omega) (ask_2 ha) ⟨rfl, rfl⟩) ?_
      refine quiet _ (fun w H => idxAddr_sl Try.underlying58 size66 i rfl hgo.1 (o' := o1 + i * 5) rfl ⟨rfl, rfl⟩) ?_
      refine quiet _ (fun w H => fieldAddr_by (fa66_3 _ _) ⟨rfl, rfl⟩) ?_
      refine quiet _ (fun w H => H.loadSl (i := i * 5 + 3) hs1 agg3 _ (by omega) (ask_3 ha) ⟨rfl, rfl⟩) ?_
      refine call_fn (c68 _ _ _ ka.2 kb.2 kc.2 hok _ (H.get 0 rfl)) ?_
      rintro _ w18 ⟨sv1, rfl, ht⟩
      replace H := H.turnBy 0 rfl ht
      refine ⟨.inr rfl, ?_⟩
      exact ⟨(i + 1, sv1, (mkA room A a.l a.lo a.hi).1), by show 60 - (i + 1) < 60 - i; omega, ⟨up (by omega), trivial⟩, ⟨by show i + 1 ≤ 60; omega, ok_mk hok _ _ _⟩, H⟩
    · refine cond_dec (fun h4 => ?_) (fun h4 => ?_)
      · refine cond_yes (decide_eq_true (by assumption)) ?_
        refine cond_yes (decide_eq_true (by assumption)) ?_
        refine cond_no (decide_eq_false (by omega)) ?_
        exact ⟨(sv, A), trivial, hok, H⟩
      · refine cond_no (decide_eq_false (by assumption)) ?_
        refine cond_no (decide_eq_false (by assumption)) ?_
        refine cond_no rfl ?_
        exact ⟨(sv, A), trivial, hok, H⟩
  · clear H
    rintro ⟨sv, A⟩ u w3 ⟨hok, H⟩
    have hAl : A.length ≤ 20000 := by have h3 := hok.len; have h4 := hok.room; omega
    have H := (H.ownNil 3 1).ownNil 78 4
    refine cut_rule (γ := Unit) _ rfl (fun _ => [(10, .slice none 0 0)]) (fun _ w' => Hp.cl H w') ⟨(), ⟨rfl, trivial⟩, H⟩ ?_
    rintro ⟨⟩ u1 w41 H1
    have H : Hp _ _ _ _ _ := H1
    refine cut_rule (γ := Unit) _ rfl (fun _ => [(11, .slice none 0 0)]) (fun _ w' => Hp.cl H w') ⟨(), ⟨rfl, trivial⟩, H⟩ ?_
    rintro ⟨⟩ u2 w42 H2
    have H : Hp _ _ _ _ _ := H2
    refine cut_rule (γ := (Option Addr × Nat) × (Option Addr × Nat) × List Nd × List Nat) _ rfl (fun ((Ba, ca), (Bb, cb), W, I) => [(10, .slice Ba W.length ca), (11, .slice Bb I.length cb)])
      (fun ((Ba, ca), (Bb, cb), W, I) w' => (W.length = I.length ∧ W.length ≤ 400000 ∧ Good A ks W I) ∧ Hp w (fun _ => False) w' [own 78 4 (.slice Ba W.length ca) W.length (flat encW W), own 3 1 (.slice Bb I.length cb) I.length (ints I), arR g r sv room A] []) ?_ ?_
    · refine loop_rule (γ := Nat × (Option Addr × Nat) × (Option Addr × Nat) × List Nd × List Nat) _ rfl
        (fun (i, (Ba, ca), (Bb, cb), W, I) => [(12, .int .i64 (i : Int)), (10, .slice Ba W.length ca), (11, .slice Bb I.length cb)])
        (fun (i, (Ba, ca), (Bb, cb), W, I) w' => (i ≤ ks.length ∧ W.length = I.length ∧ W.length ≤ i * 20000 ∧ Good A ks W I) ∧ Hp w (fun _ => False) w' [own 78 4 (.slice Ba W.length ca) W.length (flat encW W), own 3 1 (.slice Bb I.length cb) I.length (ints I), arR g r sv room A] [])
        (fun (i, _, _, _, _) => ks.length - i) (0, (none, 0), (none, 0), [], []) ⟨rfl, rfl, rfl, trivial⟩ ⟨⟨Nat.zero_le _, rfl, Nat.zero_le _, good_nil A ks⟩, H⟩ ?_
      clear H
      rintro ⟨i, ⟨Ba, ca⟩, ⟨Bb, cb⟩, W, I⟩ u w4 ⟨⟨hi, hWI, hWl, hG⟩, H⟩
      refine len_sl Try.underlying32 ?_
      refine cond_dec (fun h5 => ?_) (fun h5 => ?_)
      · have hi' : i < ks.length := by omega
        obtain ⟨gk, ok2, rfl⟩ := hs2.A (by omega)
        have hkm := List.getElem_mem hi'
        have hkb := hks _ hkm
        refine idxAddr_sl Try.underlying32 (s := 1) size3 i rfl hi' (o' := ok2 + i) (by rw [Nat.mul_one]) ?_
        refine H.loadSl hs2 agg3 _ rfl (intsI_get hi') ?_
        refine call_fn (c74 hok ks[i] hkb.2 _ (H.get 2 rfl)) ?_
        rintro _ w5 ⟨Br, cr, rfl, hn⟩
        replace H := H.addNew hn
        clear hn
        have hrl := reachL_len A ks[i]
        have hRm := fun y (hy : y ∈ reachL A ks[i]) => reachL_mem hok.inv hy
        generalize reachL A ks[i] = R at H hrl hRm ⊢
        refine loop_rule (γ := Nat × (Option Addr × Nat) × (Option Addr × Nat) × List Nd × List Nat) _ rfl
          (fun (k, (Ba, ca), (Bb, cb), W, I) => [(14, .int .i64 (k : Int)), (10, .slice Ba W.length ca), (11, .slice Bb I.length cb)])
          (fun (k, (Ba, ca), (Bb, cb), W, I) w' => (k ≤ R.length ∧ W.length = I.length ∧ W.length ≤ i * 20000 + k ∧ Good A ks W I) ∧ Hp w (fun _ => False) w' [own 3 1 (.slice Br R.length cr) R.length (ints R), own 78 4 (.slice Ba W.length ca) W.length (flat encW W), own 3 1 (.slice Bb I.length cb) I.length (ints I), arR g r sv room A] [])
          (fun (k, _, _, _, _) => R.length - k) (0, (Ba, ca), (Bb, cb), W, I) ⟨rfl, rfl, rfl, trivial⟩ ⟨⟨Nat.zero_le _, hWI, Nat.le_trans hWl (Nat.le_add_right _ _), hG⟩, H⟩ ?_
        clear H hWI hWl hG
        rintro ⟨k, ⟨Bx, cx⟩, ⟨By, cy⟩, W', I'⟩ u w6 ⟨⟨hk, hWI, hWl, hG⟩, H⟩
        refine len_sl Try.underlying32 ?_
        refine cond_dec (fun h6 => ?_) (fun h6 => ?_)
        · have hk' : k < R.length := by omega
          obtain ⟨gr, rfl⟩ := H.ownA 0 rfl (by omega)
          obtain ⟨x, n, hx, hsl, hr⟩ := hRm _ (List.getElem_mem hk')
          have hxl := slot_lt hsl
          have hget : (ints R)[k]? = some (.int .i64 ((x : Int) + 2)) := by rw [ints_get hk', hx]; rfl
          refine idxAddr_sl Try.underlying32 (s := 1) size3 k rfl hk' (o' := k) (by omega) ?_
          refine H.loadOwn 0 rfl agg3 hget ?_
          refine call_fn (c72_a x (by omega) n hsl _ (H.get 3 rfl)) ?_
          rintro _ w9 ⟨rfl, hk⟩
          replace H := H.same hk
          clear hk
          refine cond_no rfl ?_
          refine build78 ?_
          refine H.buildSl T62 (cs := (encW n).toArray) (by decide) (by decide) (by kernel_rfl) ?_
          clear H
          intro g12 w12 H
          refine H.appendBlk 2 0 T62 rfl rfl rfl (encW_one n) (by omega) (by omega) ?_
          clear H
          intro A1 d1 w13 H
          replace H := H.forget
          refine idxAddr_sl Try.underlying32 (s := 1) size3 k rfl hk' (o' := k) (by omega) ?_
          refine H.loadOwn 0 rfl agg3 hget ?_
          refine H.buildOne T32 rfl ?_
          clear H
          intro g16 w16 H
          refine H.appendOne 2 T32 rfl rfl (by omega) (by omega) ?_
          clear H
          intro A2 d2 w17 H
          have hlw : (W' ++ [n]).length = W'.length + 1 := by simp
          have hli : (I' ++ [x + 2]).length = I'.length + 1 := by simp
          have H : Hp w (fun _ => False) w17 [own 3 1 (.slice (some ⟨gr, 0, none⟩) R.length cr) R.length (ints R), own 78 4 (.slice A1 (W' ++ [n]).length d1) (W' ++ [n]).length (flat encW (W' ++ [n])), own 3 1 (.slice A2 (I' ++ [x + 2]).length d2) (I' ++ [x + 2]).length (ints (I' ++ [x + 2])), arR g r sv room A] [] := by
            rw [hlw, hli, flat_snoc, ← ints_snoc]; exact H
          exact ⟨(k + 1, (A1, d1), (A2, d2), W' ++ [n], I' ++ [x + 2]), by show R.length - (k + 1) < R.length - k; omega, ⟨up (by omega), by rw [hlw]; rfl, by rw [hli]; rfl, trivial⟩, ⟨by show k + 1 ≤ R.length; omega, by rw [hlw, hli, hWI], by rw [hlw]; show W'.length + 1 ≤ i * 20000 + (k + 1); omega, good_snoc hG hWI hsl hkm hr⟩, H⟩
        · exact ⟨(i + 1, (Bx, cx), (By, cy), W', I'), by show ks.length - (i + 1) < ks.length - i; omega, ⟨up (by omega), rfl, rfl, trivial⟩, ⟨by show i + 1 ≤ _; omega, hWI, by show W'.length ≤ (i + 1) * 20000; omega, hG⟩, H.forget⟩
      · exact ⟨((Ba, ca), (Bb, cb), W, I), ⟨rfl, rfl, trivial⟩, ⟨hWI, by omega, hG⟩, H⟩
    · clear H
      rintro ⟨⟨Ba, ca⟩, ⟨Bb, cb⟩, W, I⟩ u w4 ⟨⟨hWI, hWl, hG⟩, H⟩
      have hA2 := ok_sweep hok ks
      refine call_fn (c66 hok ks (fun k hk => (hks k hk).2) (by omega) (S := fun x => x < w.heap.size) _ (H.get 2 rfl) ((sl _ _ _ _ _).stable w _ (fun x hx => H.keeps.old x hx id) hs2) (fun x hx => Nat.lt_of_lt_of_le hx H.keeps.size)
        (fun x hx hf => by rcases H.new _ (.tail _ (.tail _ (.head _))) x hf with h | h; · omega
                           · exact h)) ?_
      rintro _ w5 ⟨rfl, ht⟩
      replace H := H.turnBy 2 rfl ht
      clear ht
      have hsl : ∀ (x : Nat) (n : Nd), slot A x = some n → (∃ k ∈ ks, Rch A k x) → slot (sweepA A ks) x = some n := fun x n h1 h2 => (slot_sweep hok.inv ks x n).2 ⟨h1, h2⟩
      have hsz : (sweepA A ks).length = A.length := sweepTo_length _ _ _
      generalize sweepA A ks = A2 at H hA2 hsl hsz
      refine call_fn (c70 _ (H.get 2 rfl)) ?_
      rintro _ w6 ⟨rfl, hk⟩
      replace H := H.same hk
      clear hk
      refine cut_rule (γ := Value) _ rfl (fun _ => []) (fun sv w' => Hp w (fun _ => False) w' [own 78 4 (.slice Ba W.length ca) W.length (flat encW W), own 3 1 (.slice Bb I.length cb) I.length (ints I), arR g r sv room A2] []) ?_ ?_
      · refine loop_rule (γ := Nat × Value) _ rfl (fun (j, _) => [(20, .int .i64 (j : Int))])
          (fun (j, sv) w' => j ≤ I.length ∧ Hp w (fun _ => False) w' [own 78 4 (.slice Ba W.length ca) W.length (flat encW W), own 3 1 (.slice Bb I.length cb) I.length (ints I), arR g r sv room A2] []) (fun (j, _) => I.length - j) (0, sv) ⟨rfl, trivial⟩ ⟨Nat.zero_le _, H⟩ ?_
        clear H
        rintro ⟨j, sv2⟩ u w7 ⟨hj, H⟩
        refine len_sl Try.underlying32 ?_
        refine cond_dec (fun h7 => ?_) (fun h7 => ?_)
        · have hj' : j < I.length := by omega
          obtain ⟨n, hn⟩ : ∃ n, W[j]? = some n := ⟨_, List.getElem?_eq_getElem (by omega)⟩
          obtain ⟨x, hx, hs, hr⟩ := hG j n hn
          have hs2' := hsl x n hs hr
          have hxl := slot_lt hs2'
          have hmk := good_make hA2 hs2'
          have hlv := hA2.inv.lev x n hs2'
          have hr1 := lvlA_range (A := A2) (id := n.lo) (by omega)
          have hr2 := lvlA_range (A := A2) (id := n.hi) (by omega)
          have hget : (ints I)[j]? = some (.int .i64 ((x : Int) + 2)) := by rw [ints, List.getElem?_map, hx]; rfl
          obtain ⟨ga, rfl⟩ := H.ownA 0 rfl (by omega)
          obtain ⟨gb, rfl⟩ := H.ownA 1 rfl (by omega)
          refine idxAddr_sl Try.underlying62 (s := 4) size78 j rfl (by omega) (o' := j * 4) (by omega) ?_
          refine H.loadOwnAgg 0 rfl encW_length agg78 size78 j rfl hn ?_
          refine H.alloc 78 zero78 rfl ?_
          clear H
          intro g10 w10 H
          refine H.storeAll 0 rfl size78 rfl (fun v hv => encW_one n v hv) ?_
          clear H
          intro w11 H
          refine idxAddr_sl Try.underlying32 (s := 1) size3 j rfl hj' (o' := j) (by omega) ?_
          refine H.loadOwn 2 rfl agg3 hget ?_
          refine call_fn (c72_a x (by omega) n hs2' _ (H.get 3 rfl)) ?_ 
          rintro _ w12 ⟨rfl, hk⟩ 
          replace H := H.same hk 
          clear hk
          refine fieldAddr_by (fa78_0 _) ?_
          refine H.load 0 rfl agg3 rfl ?_
          refine fieldAddr_by (fa78_1 _) ?_
          refine H.load 0 rfl agg3 rfl ?_
          refine fieldAddr_by (fa78_2 _) ?_
          refine H.load 0 rfl agg3 rfl ?_
          have htop := hA2.inv.top x n hs2'
          refine call_fn (c68 (n.l : Int) (n.lo : Int) (n.hi : Int) (by omega) (by omega) (by omega) hA2 _ (H.get 3 rfl)) ?_
          rintro _ w13 ⟨sv3, rfl, ht⟩
          replace H := H.turnBy 3 rfl ht
          clear ht
          rw [hmk] at H ⊢
          iterate 2 refine cond_no (by decide) ?_
          refine fieldAddr_by (fa78_0 _) ?_
          refine cond_no (by decide) ?_
          refine H.load 0 rfl agg3 rfl ?_
          iterate 2 refine cond_no (by decide) ?_
          iterate 2 refine cond_no (bne_eq_false_iff_eq.2 (by omega)) ?_
          refine fieldAddr_by (fa78_1 _) ?_
          refine cond_no (bne_eq_false_iff_eq.2 (by omega)) ?_
          refine H.load 0 rfl agg3 rfl ?_
          iterate 4 refine cond_no (bne_eq_false_iff_eq.2 (by omega)) ?_
          refine fieldAddr_by (fa78_2 _) ?_
          refine cond_no (bne_eq_false_iff_eq.2 (by omega)) ?_
          refine H.load 0 rfl agg3 rfl ?_
          iterate 6 refine cond_no (bne_eq_false_iff_eq.2 (by omega)) ?_
          refine idxAddr_sl Try.underlying32 (s := 1) (by kernel_rfl) _ rfl (by first | omega | decide | (simp only [IntKind.wrap_i64]; omega) | (rw [bls, List.length_map]; omega) | (rw [bytesV_length]; omega) | (rw [ints_length]; omega) | (simp; done) | (simp; omega)) (o' := _) (by rw [Nat.zero_add, Nat.mul_one]) ?_
          refine cond_no (bne_eq_false_iff_eq.2 (by omega)) ?_
          refine H.loadOwn 2 rfl agg3 hget ?_
          iterate 2 refine cond_no (bne_eq_false_iff_eq.2 (by omega)) ?_
          iterate 3 refine cond_no (by simp) ?_
          refine cond_no rfl ?_
          exact ⟨(j+1, sv3), by show I.length-(j+1) < I.length-j; omega, ⟨up (by omega), trivial⟩, by show j+1 ≤ _; omega, H.forget⟩
        · exact ⟨sv2, trivial, H⟩
      · clear H
        rintro sv2 u w7 H
        refine call_fn (c70 _ (H.get 2 rfl)) ?_
        rintro _ w8 ⟨rfl, hk⟩
        replace H := H.same hk
        clear hk
        refine cond_yes (beq_self_eq_true _) ?_
        refine call_fn (c65 _) ?_ 
        rintro _ w10 ⟨rfl, hk⟩ 
        replace H := H.same hk 
        clear hk
        refine cond_yes (beq_self_eq_true _) ?_
        exact ⟨rfl, H.keeps⟩
theorem law10 (room : Int) (v1 v2 : Value) (la : List AskV) (ks : List Int) (w : World) (h1 : AsksAt w v1 la) (h2 : IntsAt w v2 ks) : Fun Try.prog 10 [.int .i64 room, v1, v2] w fun v w' => v = .bool true ∧ Same w w' := by
  obtain ⟨B2, c2, rfl, hl2, hk2, hs2⟩ := h2
  rcases Int.lt_or_le room 0 with h0 | h0
  · exact law10_b room (.inl h0) v1 ks B2 c2 w
  rcases Int.lt_or_le 20000 room with h3 | h3
  · exact law10_b room (.inr h3) v1 ks B2 c2 w
  rcases Nat.lt_or_ge 20 ks.length with h4 | h4
  · exact law10_l room h0 h3 v1 ks h4 B2 c2 w
  obtain ⟨B1, c1, rfl, hl1, hk1, hs1⟩ := h1
  exact law10_m room h0 h3 la B1 c1 ks h4 B2 c2 w hk1 hs1 hk2 hs2
end Go.Proofs.Ytjebpngdinbckaa

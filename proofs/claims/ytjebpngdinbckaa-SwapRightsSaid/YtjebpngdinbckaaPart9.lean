import Derived.Test.YtjebpngdinbckaaPart8
/- Lemmas, part 9: what the proof of the row uses. -/
section
/- Graphs: SwapRights. -/
namespace Go.Proofs.Ytjebpngdinbckaa
open Go.Dk
attribute [local irreducible] IntKind.wrap
theorem ent32 : enters Try.prog 32 = true := by kernel_rfl
theorem law32_m (o : List Int) (N : List I3) (Bo A : Option Addr) (co c : Nat) (r : Int) (w : World) (hS : Sl w (.slice Bo o.length co) 1 o.length (intsI o)) (hA : Sl w (.slice A N.length c) 3 N.length (flat encI N)) :
    Fun Try.prog 32 [grV (.slice Bo o.length co) (.slice A N.length c) r] w fun v w' => v = .bool true ∧ Same w w' := by
  refine fun_of_W (N := 45) Try.func32 ent32 rfl rfl rfl (by simp) ?_
  have H := Hp.start0 w
  refine cut_rule (γ := Nat) _ rfl (fun g1 => [(1, .pointer (some ⟨g1, 0, none⟩)), (2, .bool false)]) (fun g1 w' => Hp w (fun _ => False) w' [blk g1 148 (grC (.slice Bo o.length co) (.slice A N.length c) r)] []) ?_ ?_
  · refine H.box 148 _ (cs := grC (.slice Bo o.length co) (.slice A N.length c) r) rfl ?_
    clear H
    intro g1 w1 H
    exact ⟨g1, ⟨rfl, rfl, trivial⟩, H⟩
  clear H
  rintro g1 u w1 H
  replace H : Hp _ _ _ _ _ := H
  refine cut_rule (γ := Unit) _ rfl (fun _ => []) (fun _ w' => (o.length ≤ 20 ∧ N.length ≤ 60) ∧ Hp w (fun _ => False) w' [blk g1 148 (grC (.slice Bo o.length co) (.slice A N.length c) r)] []) ?_ ?_
  · refine H.loadAll 0 rfl agg148 size148 ?_
    refine call_fn (c130 Bo A o.length co N.length c r _) ?_
    rintro _ w2 ⟨rfl, hk⟩
    replace H := H.same hk
    clear hk
    refine cond_dec (fun h => ?_) (fun h => ?_)
    · refine call_fn (c131 _) ?_
      rintro _ w3 ⟨rfl, hk⟩
      replace H := H.same hk
      clear hk
      exact ⟨rfl, H.keeps⟩
    · exact ⟨(), trivial, by omega, H⟩
  clear H
  rintro ⟨⟩ u w2 ⟨⟨h20, h60⟩, H⟩
  replace H : Hp _ _ _ _ _ := H
  by_cases hR : ∃ P, RightG o N r P
  · obtain ⟨P, hP⟩ := hR
    have hPl : P.length = N.length := by have := congrArg List.length hP.nds; rwa [List.length_map] at this
    have hlv : ∀ (i : Nat) (d : Nd), P[i]? = some d → d.l < o.length := fun i d hd => hP.inv.lt i d (by rw [slot_arN]; exact hd)
    have hr0 := hP.root0
    have hr1 := hP.root1
    refine cut_rule (γ := Nat) _ rfl (fun g3 => [(3, .pointer (some ⟨g3, 0, none⟩)), (4, .int .i64 0)]) (fun g3 w' => Hp w (fun _ => False) w' [blk g3 24 (sc (setD (natsI o) (arN P) r)), blk g1 148 (grC (.slice Bo o.length co) (.slice A N.length c) r)] []) ?_ ?_
    · refine H.loadAll 0 rfl agg148 size148 ?_
      refine call_fn (c142 o N Bo A co c r (by omega) (by omega) w2 (hS.same H.keeps) (hA.same H.keeps)) ?_
      rintro _ w3 ⟨⟨h, _⟩ | ⟨P2, hP2, rfl⟩, hk⟩
      · exact absurd ⟨P, hP⟩ h
      · replace H := H.same hk
        clear hk
        obtain rfl : P2 = P := ndI_inj (hP2.nds.trans hP.nds.symm)
        refine H.alloc 24 (cs := sc 0) zero24 sc_zero ?_
        clear H
        intro g3 w6 H
        refine H.storeSet 0 rfl ?_
        clear H
        intro w7 H
        exact ⟨g3, ⟨rfl, rfl, trivial⟩, H⟩
    clear H
    rintro g3 u w3 H
    replace H : Hp _ _ _ _ _ := H
    refine cut_rule (γ := Unit) _ rfl (fun _ => []) (fun _ w' => Hp w (fun _ => False) w' [blk g3 24 (sc (setD (natsI o) (arN P) r)), blk g1 148 (grC (.slice Bo o.length co) (.slice A N.length c) r)] []) ?_ ?_
    · refine H.draw fol (by kernel_rfl) ?_
      clear H
      intro w4 H
      refine quiet _ (fun w H => H.loadAll 1 rfl agg148 size148 ⟨rfl, rfl⟩) ?_
      refine call_fn (c143 o N Bo A co c r (by omega) (by omega) _ (hS.same H.keeps) (hA.same H.keeps)) ?_
      rintro _ w5 ⟨b, rfl, hb, hk⟩
      replace H := H.same hk
      clear hk
      obtain rfl := hb.2 ⟨P, hP⟩
      refine ⟨.inl H, ?_⟩
      refine quiet _ (fun w H => H.loadAll 1 rfl agg148 size148 ⟨rfl, rfl⟩) ?_
      refine call_fn (c134 N Bo A o.length co c r (by omega) w5 (hA.same H.keeps)) ?_
      rintro _ w6 ⟨D, d, rfl, hn⟩
      replace H := H.addNew hn
      clear hn
      refine ⟨.inl H.forget, ?_⟩
      refine call_fn (c133 o N Bo D co d r (by omega) (by omega) w6 (hS.same H.keeps) (own_Sl (H.get 0 rfl))) ?_
      rintro _ w7 ⟨b, rfl, hb, hk⟩
      replace H := H.same hk
      clear hk
      obtain rfl := hb.2 ⟨P, hP⟩
      refine ⟨.inl H.forget, ?_⟩
      refine quiet _ (fun w H => bin_neq_bool Try.underlying4 ⟨rfl, rfl⟩) ?_
      refine cond_no rfl ?_
      exact ⟨(), trivial, H.forget⟩
    clear H
    rintro ⟨⟩ u w4 H
    replace H : Hp _ _ _ _ _ := H
    refine cut_rule (γ := Unit) _ rfl (fun _ => []) (fun _ w' => Hp w (fun _ => False) w' [blk g3 24 (sc (setD (natsI o) (arN P) r)), blk g1 148 (grC (.slice Bo o.length co) (.slice A N.length c) r)] []) ?_ ?_
    · refine H.loadAll 1 rfl agg148 size148 ?_
      refine call_fn (c134 N Bo A o.length co c r (by omega) _ (hA.same H.keeps)) ?_
      rintro _ w6 ⟨D, d, rfl, hn⟩
      replace H := H.addNew hn
      clear hn
      refine call_fn (c133 o N Bo D co d r (by omega) (by omega) w6 (hS.same H.keeps) (own_Sl (H.get 0 rfl))) ?_
      rintro _ w7 ⟨b, rfl, hb, hk⟩
      replace H := H.same hk
      clear hk
      obtain rfl := hb.2 ⟨P, hP⟩
      refine cond_no rfl ?_
      exact ⟨(), trivial, H.forget⟩
    clear H
    rintro ⟨⟩ u w5 H
    replace H : Hp _ _ _ _ _ := H
    refine H.draw fol (by kernel_rfl) ?_
    clear H
    intro w6 H
    refine quiet _ (fun w H => H.loadAll 0 rfl agg24 size24 ⟨rfl, rfl⟩) ?_
    refine quiet _ (fun w H => H.loadAll 1 rfl agg148 size148 ⟨rfl, rfl⟩) ?_
    refine call_fn (c134 N Bo A o.length co c r (by omega) _ (hA.same H.keeps)) ?_
    rintro _ w7 ⟨D, d, rfl, hn⟩
    replace H := H.addNew hn
    clear hn
    refine ⟨.inl H.forget, ?_⟩
    have hc := c137 hP.ord hP.nds hP.topo hlv (by omega) Bo D co d r.toNat (by omega) w7 (hS.same H.keeps) (own_Sl (H.get 0 rfl))
    rw [show ((r.toNat : Nat) : Int) = r by omega, says_eq hP] at hc
    refine call_fn hc ?_
    clear hc
    rintro _ w8 ⟨rfl, hk⟩
    replace H := H.same hk
    clear hk
    refine ⟨.inl H.forget, ?_⟩
    refine quiet _ (fun w H => bin_eql24 (setOf_lt _) (setOf_lt _) ⟨rfl, rfl⟩) ?_
    rw [beq_self_eq_true]
    iterate 4 refine cond_yes rfl ?_
    refine call_fn (c131 _) ?_
    rintro _ w13 ⟨rfl, hk⟩
    replace H := H.same hk
    clear hk
    refine ⟨.inl H.forget, ?_⟩
    refine cond_yes rfl ?_
    exact ⟨rfl, H.keeps⟩
  · refine cut_rule (γ := Nat) _ rfl (fun g3 => [(3, .pointer (some ⟨g3, 0, none⟩)), (4, .int .i64 1)]) (fun g3 w' => Hp w (fun _ => False) w' [blk g3 24 (sc 0), blk g1 148 (grC (.slice Bo o.length co) (.slice A N.length c) r)] []) ?_ ?_
    · refine H.loadAll 0 rfl agg148 size148 ?_
      refine call_fn (c142 o N Bo A co c r (by omega) (by omega) w2 (hS.same H.keeps) (hA.same H.keeps)) ?_
      rintro _ w3 ⟨⟨_, rfl⟩ | ⟨P2, hP2, _⟩, hk⟩
      · replace H := H.same hk
        clear hk
        refine H.alloc 24 (cs := sc 0) zero24 sc_zero ?_
        clear H
        intro g3 w6 H
        refine H.storeSet 0 rfl ?_
        clear H
        intro w7 H
        exact ⟨g3, ⟨rfl, rfl, trivial⟩, H⟩
      · exact absurd ⟨P2, hP2⟩ hR
    clear H
    rintro g3 u w3 H
    replace H : Hp _ _ _ _ _ := H
    refine cut_rule (γ := Unit) _ rfl (fun _ => []) (fun _ w' => Hp w (fun _ => False) w' [blk g3 24 (sc 0), blk g1 148 (grC (.slice Bo o.length co) (.slice A N.length c) r)] []) ?_ ?_
    · refine H.draw fol (by kernel_rfl) ?_
      clear H
      intro w4 H
      refine quiet _ (fun w H => H.loadAll 1 rfl agg148 size148 ⟨rfl, rfl⟩) ?_
      refine call_fn (c143 o N Bo A co c r (by omega) (by omega) _ (hS.same H.keeps) (hA.same H.keeps)) ?_
      rintro _ w5 ⟨b, rfl, hb, hk⟩
      replace H := H.same hk
      clear hk
      obtain rfl : b = false := by cases b with | false => rfl | true => exact absurd (hb.1 rfl) hR
      refine ⟨.inl H, ?_⟩
      refine quiet _ (fun w H => H.loadAll 1 rfl agg148 size148 ⟨rfl, rfl⟩) ?_
      refine call_fn (c134 N Bo A o.length co c r (by omega) w5 (hA.same H.keeps)) ?_
      rintro _ w6 ⟨D, d, rfl, hn⟩
      replace H := H.addNew hn
      clear hn
      refine ⟨.inl H.forget, ?_⟩
      refine call_fn (c133 o N Bo D co d r (by omega) (by omega) w6 (hS.same H.keeps) (own_Sl (H.get 0 rfl))) ?_
      rintro _ w7 ⟨b, rfl, hb, hk⟩
      replace H := H.same hk
      clear hk
      obtain rfl : b = false := by cases b with | false => rfl | true => exact absurd (hb.1 rfl) hR
      refine ⟨.inl H.forget, ?_⟩
      refine quiet _ (fun w H => bin_neq_bool Try.underlying4 ⟨rfl, rfl⟩) ?_
      refine cond_no rfl ?_
      exact ⟨(), trivial, H.forget⟩
    clear H
    rintro ⟨⟩ u w4 H
    replace H : Hp _ _ _ _ _ := H
    refine H.loadAll 1 rfl agg148 size148 ?_
    refine call_fn (c134 N Bo A o.length co c r (by omega) _ (hA.same H.keeps)) ?_
    rintro _ w6 ⟨D, d, rfl, hn⟩
    replace H := H.addNew hn
    clear hn
    refine call_fn (c133 o N Bo D co d r (by omega) (by omega) w6 (hS.same H.keeps) (own_Sl (H.get 0 rfl))) ?_
    rintro _ w7 ⟨b, rfl, hb, hk⟩
    replace H := H.same hk
    clear hk
    obtain rfl : b = false := by cases b with | false => rfl | true => exact absurd (hb.1 rfl) hR
    refine cond_yes rfl ?_
    refine H.loadAll 1 rfl agg24 size24 ?_
    refine build24z ?_
    refine bin_eql24 (by first | assumption | decide) (by first | assumption | decide) ?_
    iterate 4 refine cond_yes rfl ?_
    refine call_fn (c131 _) ?_
    rintro _ w15 ⟨rfl, hk⟩
    replace H := H.same hk
    clear hk
    refine cond_yes rfl ?_
    exact ⟨rfl, H.keeps⟩
theorem law32 (vo vn : Value) (r : Int) (w : World) {o : List Int} {N : List I3} (hS : IntsAt w vo o) (hA : ∃ B c, vn = .slice B N.length c ∧ N.length ≤ 9223372036854775807 ∧ Sl w (.slice B N.length c) 3 N.length (flat encI N)) :
    Fun Try.prog 32 [grV vo vn r] w fun v w' => v = .bool true ∧ Same w w' := by
  obtain ⟨Bo, co, rfl, _, _, hS⟩ := hS
  obtain ⟨A, c, rfl, _, hA⟩ := hA
  exact law32_m o N Bo A co c r w hS hA

end Go.Proofs.Ytjebpngdinbckaa
end

section
/- More arguments of laws, opened: graphs. -/
namespace Go.Proofs.Ytjebpngdinbckaa
open Go.Dk Go.ChangeShapes Go.WideShapes Go.ChangeAt Go.RowKit
/-- Nodes, as they are handed in. -/
def NodesAt (w : World) (v : Value) (N : List I3) : Prop := ∃ B c, v = .slice B N.length c ∧ N.length ≤ 9223372036854775807 ∧ Sl w (.slice B N.length c) 3 N.length (flat encI N)
section
variable {H : Type} {enc : TypeId × Value → H} {w : World} {base b : Nat} {spare : Nat → Bool} {held : Bool}
set_option maxRecDepth 100000 in
theorem cells230 : Try.prog.cellsOf 230 = 3 := by kernel_rfl
theorem cells146 : Try.prog.cellsOf 146 = 1 := by kernel_rfl
theorem cells148 : Try.prog.cellsOf 148 = 3 := by kernel_rfl
set_option maxRecDepth 100000 in
theorem node_at {fuel : Nat} {r : List Value} {x : DataW H × List MemPlace} (h : DataW.trod enc Try.prog w base spare held fuel 230 r = some x) : ∃ e : I3, True ∧ r = encI e := by
  obtain ⟨xs, n, _, _, hl, hlen, hf⟩ := DataW.trod_struct Try.underlying230 h
  rw [cells230] at hl
  have f0 : DataW.trod enc Try.prog w base spare held n 3 ((r.drop 0).take (Try.prog.cellsOf 3)) = xs[0]? := hf 0 _ rfl
  rw [cells3] at f0
  have f1 : DataW.trod enc Try.prog w base spare held n 3 ((r.drop 1).take (Try.prog.cellsOf 3)) = xs[1]? := hf 1 _ rfl
  rw [cells3] at f1
  have f2 : DataW.trod enc Try.prog w base spare held n 3 ((r.drop 2).take (Try.prog.cellsOf 3)) = xs[2]? := hf 2 _ rfl
  rw [cells3] at f2
  match r, hl, xs, hlen, f0, f1, f2 with
  | [c0, c1, c2], _, [y0, y1, y2], _, f0, f1, f2 =>
    obtain ⟨n0, k0, e0⟩ := int_at f0
    obtain ⟨n1, k1, e1⟩ := int_at f1
    obtain ⟨n2, k2, e2⟩ := int_at f2
    simp at e0 e1 e2
    subst e0; subst e1; subst e2
    exact ⟨(n0, n1, n2), trivial, rfl⟩
set_option maxRecDepth 100000 in
theorem nodes_at {fuel : Nat} {v : Value} {x : DataW H × List MemPlace} (h : DataW.trod enc Try.prog w base spare held fuel 146 [v] = some x) : ∃ N, NodesAt w v N := by
  obtain ⟨A, c, l, hv, hl, _, hs⟩ := arg_list Try.underlying146 cells230 (by decide) encI (fun _ => True) encI_length (fun fuel r y hy => node_at hy) h
  exact ⟨l, A, c, hv, hl, hs⟩
set_option maxRecDepth 100000 in
theorem arg_graph {v : Value} {d : DataW H} {ps : List MemPlace} (hval : Value.okWide Try.prog w .any b 148 v) (h : DataW.Trod enc Try.prog w base spare held 148 v d ps) : ∃ vo vn r o N, okI r ∧ IntsAt w vo o ∧ NodesAt w vn N ∧ v = grV vo vn r := by
  unfold Value.okWide at hval
  rw [Try.underlying148] at hval
  obtain ⟨cs, rfl, hsz, _⟩ := hval
  obtain ⟨fuel, hf⟩ := h
  obtain ⟨xs, n, _, _, hl, hlen, hx⟩ := DataW.trod_struct Try.underlying148 hf
  rw [cells148] at hl
  obtain ⟨l, rfl⟩ : ∃ l : List Value, cs = l.toArray := ⟨cs.toList, by simp⟩
  have hl' : l.length = 3 := hl
  have f0 : DataW.trod enc Try.prog w base spare held n 32 ((l.drop 0).take (Try.prog.cellsOf 32)) = xs[0]? := hx 0 _ rfl
  rw [cells32] at f0
  have f1 : DataW.trod enc Try.prog w base spare held n 146 ((l.drop 1).take (Try.prog.cellsOf 146)) = xs[1]? := hx 1 _ rfl
  rw [cells146] at f1
  have f2 : DataW.trod enc Try.prog w base spare held n 3 ((l.drop 2).take (Try.prog.cellsOf 3)) = xs[2]? := hx 2 _ rfl
  rw [cells3] at f2
  match l, hl', xs, hlen, f0, f1, f2 with
  | [c0, c1, c2], _, [y0, y1, y2], _, f0, f1, f2 =>
    obtain ⟨o, ho⟩ := ints_at f0
    obtain ⟨N, hN⟩ := nodes_at f1
    obtain ⟨m, hm, he⟩ := int_at f2
    have he' : [c2] = [Value.int .i64 m] := he
    injection he' with he' _
    subst he'
    exact ⟨c0, c1, m, o, N, hm, ho, hN, rfl⟩
end
end Go.Proofs.Ytjebpngdinbckaa
end

import Derived.Test.YtjebpngdinbckaaPart7
/- Lemmas, part 8: what the proof of the row uses. -/
section
/- Law 27. -/
namespace Go.Proofs.Ytjebpngdinbckaa
open Go.Dk
attribute [local irreducible] IntKind.wrap

/-- What Of answers where there is room enough. -/
def OfR (o : List Nat) (A : Ar) (s : Nat) (f e : Int) : Prop := (lessN s (allN o.length) ≠ 0 ∧ f = 0 ∧ e = 1) ∨ (lessN s (allN o.length) = 0 ∧ e = 0 ∧ Rep A f (FnS o s))
theorem OfR.ext {o : List Nat} {A A' : Ar} {s : Nat} {f e : Int} (hA : ArInv A) (hA' : ArInv A') (hx : Ext A A') (h : OfR o A s f e) : OfR o A' s f e := by
  rcases h with h | ⟨h1, h2, h3⟩
  · exact .inl h
  · exact .inr ⟨h1, h2, h3.ext hA hA' hx⟩
theorem ofR {o : List Nat} (ho : OrdO o) {A A' : Ar} {s : Nat} {f e : Int} {q : Nat} (hq : liveA A ≤ q) (hr : q + 256 ≤ 20000) (hA : BInv o.length A)
    (h : (lessN s (allN o.length) ≠ 0 ∧ A' = A ∧ f = 0 ∧ e = 1) ∨ (lessN s (allN o.length) = 0 ∧ Made o.length 20000 A A' (FnS o s) f e)) : OfR o A' s f e ∧ liveA A' ≤ q + 255 ∧ Ext A A' ∧ BInv o.length A' := by
  rcases h with ⟨h1, rfl, h2, h3⟩ | ⟨h1, hm⟩
  · exact ⟨.inl ⟨h1, h2, h3⟩, by omega, Ext.refl _, hA⟩
  · obtain ⟨he, hrep, hl⟩ := made_small hm (FnS_low ho s) ho.le hq (by omega)
    exact ⟨.inr ⟨h1, he, hrep⟩, hl, hm.ext, hm.inv⟩
theorem ite3 {A : Ar} {f g h : Int} {F G K : Dk.Fn} (hf : Rep A f F) (hg : Rep A g G) (hh : Rep A h K) : iteF A f g h = fun a => if F a then G a else K a := by
  funext a
  unfold iteF
  rw [hf.says, hg.says, hh.says]
theorem not1 {A : Ar} {f : Int} {F : Dk.Fn} (hf : Rep A f F) : iteF A f 0 1 = fun a => !F a := by
  funext a
  unfold iteF
  rw [hf.says, sem_none (nd_end (.inl rfl)), sem_none (nd_end (.inr rfl))]
  cases F a <;> rfl
theorem ent27 : enters Try.prog 27 = true := by kernel_rfl
set_option maxHeartbeats 4000000 in
theorem law27_m (ks : List Int) (B : Option Addr) (c : Nat) (r s t : Nat) (hr : r < 2 ^ 256) (hs : s < 2 ^ 256) (ht : t < 2 ^ 256) (input : Int) (w : World) (hl : ks.length ≤ 9223372036854775807) (hS : Sl w (.slice B ks.length c) 1 ks.length (intsI ks)) :
    Fun Try.prog 27 [.slice B ks.length c, sv r, sv s, sv t, .int .i64 input] w fun v w' => v = .bool true ∧ Same w w' := by
  refine fun_of_W (N := 286) Try.func27 ent27 rfl rfl rfl (by simp) ?_
  have H := Hp.start0 w
  refine cut_rule (γ := Nat × Nat × Nat) _ rfl (fun (g6, g7, g8) => [(6, .pointer (some ⟨g6, 0, none⟩)), (7, .pointer (some ⟨g7, 0, none⟩)), (8, .pointer (some ⟨g8, 0, none⟩))]) (fun (g6, g7, g8) w' => Hp w (fun _ => False) w' [blk g8 24 (sc t), blk g7 24 (sc s), blk g6 24 (sc r)] []) ?_ ?_
  · refine H.box 24 (sv r) (cs := sc r) rfl ?_
    clear H
    intro g5 w1 H
    refine H.box 24 (sv s) (cs := sc s) rfl ?_
    clear H
    intro g6 w1 H
    refine H.box 24 (sv t) (cs := sc t) rfl ?_
    clear H
    intro g7 w1 H
    exact ⟨(g5, g6, g7), ⟨rfl, rfl, rfl, trivial⟩, H⟩
  clear H
  rintro ⟨g6, g7, g8⟩ u w1 H
  replace H : Hp _ _ _ _ _ := H
  refine cut_rule (γ := Unit) _ rfl (fun _ => []) (fun _ w' => ks.length ≤ 20 ∧ Hp w (fun _ => False) w' [blk g8 24 (sc t), blk g7 24 (sc s), blk g6 24 (sc r)] []) ?_ ?_
  · refine len_sl Try.underlying32 ?_
    refine cond_dec (fun h3 => ?_) (fun h3 => ?_)
    · refine call_fn (c106 _) ?_
      rintro _ w4 ⟨rfl, hk⟩
      replace H := H.same hk
      clear hk
      exact ⟨rfl, H.keeps⟩
    · exact ⟨(), trivial, by omega, H⟩
  clear H
  rintro ⟨⟩ u w2 ⟨h20, H⟩
  replace H : Hp _ _ _ _ _ := H
  refine cut_rule (γ := Option (Nat × Nat × Nat × Nat × Option Addr)) _ rfl (fun x => [(11, match x with | none => .pointer none | some (g, _) => .pointer (some ⟨g, 0, none⟩)), (12, .bool true)])
    (fun x w' => match x with | none => ¬ OrdI ks ∧ Hp w (fun _ => False) w' [blk g8 24 (sc t), blk g7 24 (sc s), blk g6 24 (sc r)] [] | some (g, ga, q, co, B') => OrdI ks ∧ Hp w (fun _ => False) w' [arR ga q (.slice none 0 0) 20000 [], blk g8 24 (sc t), blk g7 24 (sc s), blk g6 24 (sc r)] (bdM g ga co B' (natsI ks) ++ [])) ?_ ?_
  · refine call_fn (c107 ks B c _ hl (hS.same H.keeps)) ?_
    rintro _ w3 (⟨hno, rfl, hk⟩ | ⟨hord, g, ga, q, co, B', rfl, hn⟩)
    · exact ⟨none, ⟨rfl, rfl, trivial⟩, hno, H.same hk⟩
    · exact ⟨some (g, ga, q, co, B'), ⟨rfl, rfl, trivial⟩, hord, (H.addNew hn).bdOpen.takeN 4⟩
  clear H
  rintro (_ | ⟨g, ga, q, co, B'⟩) u w3 ⟨hord, H⟩
  · replace H : Hp _ _ _ _ _ := H
    refine bin_eql123z ?_
    iterate 5 refine cond_yes rfl ?_
    refine call_fn (c106 _) ?_
    rintro _ w13 ⟨rfl, hk⟩
    replace H := H.same hk
    clear hk
    refine cond_yes rfl ?_
    exact ⟨rfl, H.keeps⟩
  replace H : Hp _ _ _ _ _ := H
  have ho : OrdO (natsI ks) := hord.nats
  have ho8 : (natsI ks).length ≤ 8 := ho.le
  have hkl : (natsI ks).length = ks.length := natsI_length ks
  have hS' := ord_sl hord hS
  have hA0 : BInv (natsI ks).length [] := BInv.nil _
  have hok0 : ArOk 20000 [] := ok_start (by decide) (by decide)
  refine cut_rule (γ := Unit) _ rfl (fun _ => []) (fun _ w' => Hp w (fun _ => False) w' [arR ga q (.slice none 0 0) 20000 [], blk g8 24 (sc t), blk g7 24 (sc s), blk g6 24 (sc r)] (bdM g ga co B' (natsI ks) ++ [])) ?_ ?_
  · refine bin_eql123 ?_
    iterate 4 refine cond_no rfl ?_
    exact ⟨(), trivial, H⟩
  clear H
  rintro ⟨⟩ u w4 H
  replace H : Hp _ _ _ _ _ := H
  refine cut_rule (γ := Int × Int × Value × Ar) _ rfl (fun (f, e, _) => [(13, .int .i64 f), (14, .int .i64 e)]) (fun (f, e, sv1, A1) w' => (ArOk 20000 A1 ∧ BInv (natsI ks).length A1 ∧ liveA A1 ≤ 255 ∧ OfR (natsI ks) A1 r f e) ∧ Hp w (fun _ => False) w' [arR ga q sv1 20000 A1, blk g8 24 (sc t), blk g7 24 (sc s), blk g6 24 (sc r)] (bdM g ga co B' (natsI ks) ++ [])) ?_ ?_
  · refine H.loadAll 3 rfl agg24 size24 ?_
    refine call_fn (c108 ho ho8 hr _ hA0 hok0 H.bdAt') ?_
    rintro _ w5 ⟨A1, sv1, f, e, rfl, hm, hok1, ht⟩
    obtain ⟨hR, hl, hx, hI⟩ := ofR ho (q := 0) (by decide) (by decide) hA0 hm
    exact ⟨(f, e, sv1, A1), ⟨rfl, rfl, trivial⟩, ⟨hok1, hI, hl, hR⟩, H.turnBy 0 rfl ht⟩
  clear H
  rintro ⟨f1, e1, sv1, A1⟩ u w5 ⟨⟨hok1, hA1, hl1, oR⟩, H⟩
  replace H : Hp _ _ _ _ _ := H
  refine cut_rule (γ := Int × Int × Value × Ar) _ rfl (fun (f, e, _) => [(15, .int .i64 f), (16, .int .i64 e)]) (fun (f, e, sv2, A2) w' => (ArOk 20000 A2 ∧ BInv (natsI ks).length A2 ∧ liveA A2 ≤ 510 ∧ OfR (natsI ks) A2 s f e ∧ OfR (natsI ks) A2 r f1 e1) ∧ Hp w (fun _ => False) w' [arR ga q sv2 20000 A2, blk g8 24 (sc t), blk g7 24 (sc s), blk g6 24 (sc r)] (bdM g ga co B' (natsI ks) ++ [])) ?_ ?_
  · refine H.loadAll 2 rfl agg24 size24 ?_
    refine call_fn (c108 ho ho8 hs _ hA1 hok1 H.bdAt') ?_
    rintro _ w5 ⟨A2, sv2, f, e, rfl, hm, hok1, ht⟩
    obtain ⟨hR, hl, hx, hI⟩ := ofR ho (q := 255) hl1 (by decide) hA1 hm
    exact ⟨(f, e, sv2, A2), ⟨rfl, rfl, trivial⟩, ⟨hok1, hI, hl, hR, oR.ext hA1.inv hI.inv hx⟩, H.turnBy 0 rfl ht⟩
  clear H
  rintro ⟨f2, e2, sv2, A2⟩ u w5 ⟨⟨hok2, hA2, hl2, oS, oR⟩, H⟩
  replace H : Hp _ _ _ _ _ := H
  refine cut_rule (γ := Int × Int × Value × Ar) _ rfl (fun (f, e, _) => [(17, .int .i64 f), (18, .int .i64 e)]) (fun (f, e, sv3, A3) w' => (ArOk 20000 A3 ∧ BInv (natsI ks).length A3 ∧ liveA A3 ≤ 765 ∧ OfR (natsI ks) A3 t f e ∧ OfR (natsI ks) A3 s f2 e2 ∧ OfR (natsI ks) A3 r f1 e1) ∧ Hp w (fun _ => False) w' [arR ga q sv3 20000 A3, blk g8 24 (sc t), blk g7 24 (sc s), blk g6 24 (sc r)] (bdM g ga co B' (natsI ks) ++ [])) ?_ ?_
  · refine H.loadAll 1 rfl agg24 size24 ?_
    refine call_fn (c108 ho ho8 ht _ hA2 hok2 H.bdAt') ?_
    rintro _ w5 ⟨A3, sv3, f, e, rfl, hm, hok1, ht⟩
    obtain ⟨hR, hl, hx, hI⟩ := ofR ho (q := 510) hl2 (by decide) hA2 hm
    exact ⟨(f, e, sv3, A3), ⟨rfl, rfl, trivial⟩, ⟨hok1, hI, hl, hR, oS.ext hA2.inv hI.inv hx, oR.ext hA2.inv hI.inv hx⟩, H.turnBy 0 rfl ht⟩
  clear H
  rintro ⟨f3, e3, sv3, A3⟩ u w5 ⟨⟨hok3, hA3, hl3, oT, oS, oR⟩, H⟩
  replace H : Hp _ _ _ _ _ := H
  refine cut_rule (γ := Unit) _ rfl (fun _ => []) (fun _ w' => (e1 = 0 ∧ e2 = 0 ∧ e3 = 0) ∧ Hp w (fun _ => False) w' [arR ga q sv3 20000 A3, blk g8 24 (sc t), blk g7 24 (sc s), blk g6 24 (sc r)] (bdM g ga co B' (natsI ks) ++ [])) ?_ ?_
  · have hr1 := fun w1 => c109' r (natsI ks).length hr ho8 w1
    have hs1 := fun w1 => c109' s (natsI ks).length hs ho8 w1
    have ht1 := fun w1 => c109' t (natsI ks).length ht ho8 w1
    rcases oR with ⟨hz1, _, he1⟩ | ⟨hz1, he1, _⟩
    · subst he1
      rw [show (lessN r (allN (natsI ks).length) == 0) = false by simpa using hz1, hkl] at hr1
      iterate 7 refine cond_yes rfl ?_
      refine H.loadAll 3 rfl agg24 size24 ?_
      refine len_sl Try.underlying32 ?_
      refine call_fn (hr1 _) ?_
      rintro _ w18 ⟨rfl, hk⟩
      replace H := H.same hk
      clear hk
      iterate 13 refine cond_yes rfl ?_
      refine call_fn (c106 _) ?_
      rintro _ w33 ⟨rfl, hk⟩
      replace H := H.same hk
      clear hk
      refine cond_yes rfl ?_
      exact ⟨rfl, H.keeps⟩
    · subst he1
      rw [show (lessN r (allN (natsI ks).length) == 0) = true by simpa using hz1, hkl] at hr1
      rcases oS with ⟨hz2, _, he2⟩ | ⟨hz2, he2, _⟩
      · subst he2
        rw [show (lessN s (allN (natsI ks).length) == 0) = false by simpa using hz2, hkl] at hs1
        iterate 3 refine cond_no rfl ?_
        iterate 4 refine cond_yes rfl ?_
        refine H.loadAll 3 rfl agg24 size24 ?_
        refine len_sl Try.underlying32 ?_
        refine call_fn (hr1 _) ?_
        rintro _ w18 ⟨rfl, hk⟩
        replace H := H.same hk
        clear hk
        refine cond_no rfl ?_
        refine H.loadAll 2 rfl agg24 size24 ?_
        iterate 2 refine cond_no rfl ?_
        refine len_sl Try.underlying32 ?_
        refine cond_no rfl ?_
        refine call_fn (hs1 _) ?_
        rintro _ w26 ⟨rfl, hk⟩
        replace H := H.same hk
        clear hk
        iterate 2 refine cond_no rfl ?_
        iterate 7 refine cond_yes rfl ?_
        refine call_fn (c106 _) ?_
        rintro _ w36 ⟨rfl, hk⟩
        replace H := H.same hk
        clear hk
        refine cond_yes rfl ?_
        exact ⟨rfl, H.keeps⟩
      · subst he2
        rw [show (lessN s (allN (natsI ks).length) == 0) = true by simpa using hz2, hkl] at hs1
        rcases oT with ⟨hz3, _, he3⟩ | ⟨hz3, he3, _⟩
        · subst he3
          rw [show (lessN t (allN (natsI ks).length) == 0) = false by simpa using hz3, hkl] at ht1
          iterate 6 refine cond_no rfl ?_
          refine cond_yes rfl ?_
          refine H.loadAll 3 rfl agg24 size24 ?_
          refine len_sl Try.underlying32 ?_
          refine call_fn (hr1 _) ?_
          rintro _ w18 ⟨rfl, hk⟩
          replace H := H.same hk
          clear hk
          refine cond_no rfl ?_
          refine H.loadAll 2 rfl agg24 size24 ?_
          iterate 2 refine cond_no rfl ?_
          refine len_sl Try.underlying32 ?_
          refine cond_no rfl ?_
          refine call_fn (hs1 _) ?_
          rintro _ w26 ⟨rfl, hk⟩
          replace H := H.same hk
          clear hk
          iterate 3 refine cond_no rfl ?_
          refine H.loadAll 1 rfl agg24 size24 ?_
          iterate 2 refine cond_no rfl ?_
          refine len_sl Try.underlying32 ?_
          refine cond_no rfl ?_
          refine call_fn (ht1 _) ?_
          rintro _ w35 ⟨rfl, hk⟩
          replace H := H.same hk
          clear hk
          iterate 2 refine cond_no rfl ?_
          refine cond_yes rfl ?_
          refine call_fn (c106 _) ?_
          rintro _ w39 ⟨rfl, hk⟩
          replace H := H.same hk
          clear hk
          refine cond_yes rfl ?_
          exact ⟨rfl, H.keeps⟩
        · subst he3
          iterate 7 refine cond_no rfl ?_
          exact ⟨(), trivial, ⟨rfl, rfl, rfl⟩, H⟩
  clear H
  rintro ⟨⟩ u w6 ⟨⟨he1, he2, he3⟩, H⟩
  replace H : Hp _ _ _ _ _ := H
  obtain ⟨hrz, r1⟩ : lessN r (allN (natsI ks).length) = 0 ∧ Rep A3 f1 (FnS (natsI ks) r) := by
    rcases oR with ⟨_, _, h⟩ | ⟨h1, _, h2⟩
    · omega
    · exact ⟨h1, h2⟩
  obtain ⟨hsz, r2⟩ : lessN s (allN (natsI ks).length) = 0 ∧ Rep A3 f2 (FnS (natsI ks) s) := by
    rcases oS with ⟨_, _, h⟩ | ⟨h1, _, h2⟩
    · omega
    · exact ⟨h1, h2⟩
  obtain ⟨htz, r3⟩ : lessN t (allN (natsI ks).length) = 0 ∧ Rep A3 f3 (FnS (natsI ks) t) := by
    rcases oT with ⟨_, _, h⟩ | ⟨h1, _, h2⟩
    · omega
    · exact ⟨h1, h2⟩
  clear oR oS oT hok0 hA0 hok1 hok2 hA1 hA2 hl1 hl2
  have b1 := id_lt hok3 r1.there
  have b2 := id_lt hok3 r2.there
  have b3 := id_lt hok3 r3.there
  refine cut_rule (γ := Int × Value × Ar) _ rfl (fun (x, _) => [(19, .int .i64 x), (20, .int .i64 0)]) (fun (x, sv4, A4) w' => (ArOk 20000 A4 ∧ BInv (natsI ks).length A4 ∧ liveA A4 ≤ 1020 ∧ Rep A4 x (fun a => if FnS (natsI ks) r a then FnS (natsI ks) s a else FnS (natsI ks) t a) ∧ Rep A4 f1 ((FnS (natsI ks) r)) ∧ Rep A4 f2 ((FnS (natsI ks) s)) ∧ Rep A4 f3 ((FnS (natsI ks) t))) ∧ Hp w (fun _ => False) w' [arR ga q sv4 20000 A4, blk g8 24 (sc t), blk g7 24 (sc s), blk g6 24 (sc r)] (bdM g ga co B' (natsI ks) ++ [])) ?_ ?_
  · refine call_fn (c117 ho8 f1 f2 f3 (by omega) (by omega) (by omega) _ hA3 hok3 H.bdAt') ?_
    rintro _ w5 ⟨A4, sv4, x, e, rfl, hm, hokn, ht⟩
    have hm := hm.made r1.there r2.there r3.there
    obtain ⟨rfl, hrep, hl⟩ := made_small hm (iteF_low hA3 _ _ _) ho8 hl3 (by decide)
    rw [ite3 r1 r2 r3] at hrep
    exact ⟨(x, sv4, A4), ⟨rfl, rfl, trivial⟩, ⟨hokn, hm.inv, hl, hrep, r1.ext hA3.inv hm.inv.inv hm.ext, r2.ext hA3.inv hm.inv.inv hm.ext, r3.ext hA3.inv hm.inv.inv hm.ext⟩, H.turnBy 0 rfl ht⟩
  clear H hok3 hA3 hl3 r1 r2 r3
  rintro ⟨x4, sv4, A4⟩ u w7 ⟨⟨hok4, hA4, hl4, qx4, r1, r2, r3⟩, H⟩
  replace H : Hp _ _ _ _ _ := H
  refine cut_rule (γ := Int × Value × Ar) _ rfl (fun (x, _) => [(21, .int .i64 x), (22, .int .i64 0)]) (fun (x, sv5, A5) w' => (ArOk 20000 A5 ∧ BInv (natsI ks).length A5 ∧ liveA A5 ≤ 1275 ∧ Rep A5 x (fun a => !FnS (natsI ks) r a) ∧ Rep A5 f1 ((FnS (natsI ks) r)) ∧ Rep A5 f2 ((FnS (natsI ks) s)) ∧ Rep A5 f3 ((FnS (natsI ks) t)) ∧ Rep A5 x4 (fun a => if FnS (natsI ks) r a then FnS (natsI ks) s a else FnS (natsI ks) t a)) ∧ Hp w (fun _ => False) w' [arR ga q sv5 20000 A5, blk g8 24 (sc t), blk g7 24 (sc s), blk g6 24 (sc r)] (bdM g ga co B' (natsI ks) ++ [])) ?_ ?_
  · refine call_fn (c128 ho8 f1 (by omega) _ hA4 hok4 H.bdAt') ?_
    rintro _ w5 ⟨A5, sv5, x, e, rfl, hm, hokn, ht⟩
    have hm := hm.made r1.there (end_there _) (one_there _)
    obtain ⟨rfl, hrep, hl⟩ := made_small hm (iteF_low hA4 _ _ _) ho8 hl4 (by decide)
    rw [not1 r1] at hrep
    exact ⟨(x, sv5, A5), ⟨rfl, rfl, trivial⟩, ⟨hokn, hm.inv, hl, hrep, r1.ext hA4.inv hm.inv.inv hm.ext, r2.ext hA4.inv hm.inv.inv hm.ext, r3.ext hA4.inv hm.inv.inv hm.ext, qx4.ext hA4.inv hm.inv.inv hm.ext⟩, H.turnBy 0 rfl ht⟩
  clear H hok4 hA4 hl4 r1 r2 r3 qx4
  rintro ⟨x5, sv5, A5⟩ u w7 ⟨⟨hok5, hA5, hl5, qx5, r1, r2, r3, qx4⟩, H⟩
  replace H : Hp _ _ _ _ _ := H
  refine cut_rule (γ := Int × Value × Ar) _ rfl (fun (x, _) => [(23, .int .i64 x), (24, .int .i64 0)]) (fun (x, sv6, A6) w' => (ArOk 20000 A6 ∧ BInv (natsI ks).length A6 ∧ liveA A6 ≤ 1530 ∧ Rep A6 x (fun a => FnS (natsI ks) r a && FnS (natsI ks) s a) ∧ Rep A6 f1 ((FnS (natsI ks) r)) ∧ Rep A6 f2 ((FnS (natsI ks) s)) ∧ Rep A6 f3 ((FnS (natsI ks) t)) ∧ Rep A6 x4 (fun a => if FnS (natsI ks) r a then FnS (natsI ks) s a else FnS (natsI ks) t a) ∧ Rep A6 x5 (fun a => !FnS (natsI ks) r a)) ∧ Hp w (fun _ => False) w' [arR ga q sv6 20000 A6, blk g8 24 (sc t), blk g7 24 (sc s), blk g6 24 (sc r)] (bdM g ga co B' (natsI ks) ++ [])) ?_ ?_
  · refine call_fn (c114 ho8 f1 f2 (by omega) (by omega) _ hA5 hok5 H.bdAt') ?_
    rintro _ w5 ⟨A6, sv6, x, e, rfl, hm, hokn, ht⟩
    have hm := hm.made r1.there r2.there (end_there _)
    obtain ⟨rfl, hrep, hl⟩ := made_small hm (iteF_low hA5 _ _ _) ho8 hl5 (by decide)
    rw [ite_and r1 r2] at hrep
    exact ⟨(x, sv6, A6), ⟨rfl, rfl, trivial⟩, ⟨hokn, hm.inv, hl, hrep, r1.ext hA5.inv hm.inv.inv hm.ext, r2.ext hA5.inv hm.inv.inv hm.ext, r3.ext hA5.inv hm.inv.inv hm.ext, qx4.ext hA5.inv hm.inv.inv hm.ext, qx5.ext hA5.inv hm.inv.inv hm.ext⟩, H.turnBy 0 rfl ht⟩
  clear H hok5 hA5 hl5 r1 r2 r3 qx4 qx5
  rintro ⟨x6, sv6, A6⟩ u w7 ⟨⟨hok6, hA6, hl6, qx6, r1, r2, r3, qx4, qx5⟩, H⟩
  replace H : Hp _ _ _ _ _ := H
  refine cut_rule (γ := Int × Value × Ar) _ rfl (fun (x, _) => [(25, .int .i64 x), (26, .int .i64 0)]) (fun (x, sv7, A7) w' => (ArOk 20000 A7 ∧ BInv (natsI ks).length A7 ∧ liveA A7 ≤ 1785 ∧ Rep A7 x (fun a => FnS (natsI ks) r a || FnS (natsI ks) s a) ∧ Rep A7 f1 ((FnS (natsI ks) r)) ∧ Rep A7 f2 ((FnS (natsI ks) s)) ∧ Rep A7 f3 ((FnS (natsI ks) t)) ∧ Rep A7 x4 (fun a => if FnS (natsI ks) r a then FnS (natsI ks) s a else FnS (natsI ks) t a) ∧ Rep A7 x5 (fun a => !FnS (natsI ks) r a) ∧ Rep A7 x6 (fun a => FnS (natsI ks) r a && FnS (natsI ks) s a)) ∧ Hp w (fun _ => False) w' [arR ga q sv7 20000 A7, blk g8 24 (sc t), blk g7 24 (sc s), blk g6 24 (sc r)] (bdM g ga co B' (natsI ks) ++ [])) ?_ ?_
  · refine call_fn (c116 ho8 f1 f2 (by omega) (by omega) _ hA6 hok6 H.bdAt') ?_
    rintro _ w5 ⟨A7, sv7, x, e, rfl, hm, hokn, ht⟩
    have hm := hm.made r1.there (one_there _) r2.there
    obtain ⟨rfl, hrep, hl⟩ := made_small hm (iteF_low hA6 _ _ _) ho8 hl6 (by decide)
    rw [rep_or r1 r2] at hrep
    exact ⟨(x, sv7, A7), ⟨rfl, rfl, trivial⟩, ⟨hokn, hm.inv, hl, hrep, r1.ext hA6.inv hm.inv.inv hm.ext, r2.ext hA6.inv hm.inv.inv hm.ext, r3.ext hA6.inv hm.inv.inv hm.ext, qx4.ext hA6.inv hm.inv.inv hm.ext, qx5.ext hA6.inv hm.inv.inv hm.ext, qx6.ext hA6.inv hm.inv.inv hm.ext⟩, H.turnBy 0 rfl ht⟩
  clear H hok6 hA6 hl6 r1 r2 r3 qx4 qx5 qx6
  rintro ⟨x7, sv7, A7⟩ u w7 ⟨⟨hok7, hA7, hl7, qx7, r1, r2, r3, qx4, qx5, qx6⟩, H⟩
  replace H : Hp _ _ _ _ _ := H
  refine cut_rule (γ := Int × Int × Value × Ar) _ rfl (fun (x, e, _) => [(27, .int .i64 x), (28, .int .i64 e)]) (fun (x, e, sv8, A8) w' => (ArOk 20000 A8 ∧ BInv (natsI ks).length A8 ∧ Ext A7 A8 ∧
      ((¬ (0 ≤ input ∧ input < (natsI ks).length) ∧ x = 0 ∧ e = 1) ∨ ∃ i : Nat, input = i ∧ i < (natsI ks).length ∧ e = 0 ∧ Rep A8 x fun a => FnS (natsI ks) r a || FnS (natsI ks) r (upA a ((natsI ks).idxOf i) (!a ((natsI ks).idxOf i))))) ∧ Hp w (fun _ => False) w' [arR ga q sv8 20000 A8, blk g8 24 (sc t), blk g7 24 (sc s), blk g6 24 (sc r)] (bdM g ga co B' (natsI ks) ++ [])) ?_ ?_
  · refine call_fn (c129 ho ho8 f1 input (by omega) _ hA7 hok7 H.bdAt') ?_
    rintro _ w5 ⟨A8, sv8, x, e, rfl, hm, hok8, ht⟩
    refine ⟨(x, e, sv8, A8), ⟨rfl, rfl, trivial⟩, ?_, H.turnBy 0 rfl ht⟩
    rcases hm with ⟨hno, rfl, rfl, rfl⟩ | ⟨_, i, rfl, hi, hm⟩
    · exact ⟨hok8, hA7, Ext.refl _, .inl ⟨fun h => hno ⟨r1.there, h⟩, rfl, rfl⟩⟩
    · obtain ⟨rfl, hrep, _, hx, hI⟩ := some_small hm hA7 ho8 hl7 (by decide)
      exact ⟨hok8, hI, hx, .inr ⟨i, rfl, hi, rfl, hrep.congr fun a => by rw [r1.says, r1.says]⟩⟩
  clear H
  rintro ⟨x8, e8, sv8, A8⟩ u w8 ⟨⟨hok8, hA8, hx8, hsome⟩, H⟩
  replace H : Hp _ _ _ _ _ := H
  replace qx4 := qx4.ext hA7.inv hA8.inv hx8
  replace qx5 := qx5.ext hA7.inv hA8.inv hx8
  replace qx6 := qx6.ext hA7.inv hA8.inv hx8
  replace qx7 := qx7.ext hA7.inv hA8.inv hx8
  clear r1 r2 r3 hA7 hok7 hl7 hx8
  have bx4 := id_lt hok8 qx4.there
  have bx5 := id_lt hok8 qx5.there
  have bx6 := id_lt hok8 qx6.there
  have bx7 := id_lt hok8 qx7.there
  refine cut_rule (γ := Nat) _ rfl (fun g29 => [(29, .pointer (some ⟨g29, 0, none⟩))]) (fun g29 w' => Hp w (fun _ => False) w' [arR ga q sv8 20000 A8, blk g29 24 (sc (allN (natsI ks).length)), blk g8 24 (sc t), blk g7 24 (sc s), blk g6 24 (sc r)] (bdM g ga co B' (natsI ks) ++ [])) ?_ ?_
  · refine len_sl Try.underlying32 ?_
    have hc := fun w1 => c39 (natsI ks).length ho8 w1
    rw [hkl] at hc
    refine call_fn (hc _) ?_
    rintro _ w9 ⟨A, ca, rfl, hn⟩
    replace H := H.addNew hn
    clear hn
    refine call_fn (c38 (allFlags ks.length) (by simp [allFlags]) A ca _ (own_Sl (H.get 0 rfl))) ?_
    rintro _ w10 ⟨rfl, hk⟩
    replace H := H.same hk
    clear hk
    rw [flags_all]
    refine H.alloc 24 (cs := sc 0) zero24 sc_zero ?_
    clear H
    intro g29 w4 H
    refine H.storeSet 0 rfl ?_
    clear H
    intro w5 H
    rw [hkl]
    exact ⟨g29, ⟨rfl, trivial⟩, ((H.front 1 rfl).forget.front 1 rfl)⟩
  clear H
  rintro g29 u w9 H
  replace H : Hp _ _ _ _ _ := H
  refine cut_rule (γ := Nat) _ rfl (fun g => [(30, .pointer (some ⟨g, 0, none⟩))]) (fun g30 w' => Hp w (fun _ => False) w' [arR ga q sv8 20000 A8, blk g30 24 (sc (r &&& s ||| lessN t r)), blk g29 24 (sc (allN (natsI ks).length)), blk g8 24 (sc t), blk g7 24 (sc s), blk g6 24 (sc r)] (bdM g ga co B' (natsI ks) ++ [])) ?_ ?_
  · have hc := c110b ho x4 (by omega) _ hA8 hok8 H.bdAt'
    rw [if_pos qx4.there, ite_set ho hr ht hrz htz qx4] at hc
    refine call_fn hc ?_
    rintro _ w9 ⟨rfl, hk⟩
    replace H := H.same hk
    clear hk
    refine H.alloc 24 (cs := sc 0) zero24 sc_zero ?_
    clear H
    intro gx w4 H
    refine H.storeSet 0 rfl ?_
    clear H
    intro w5 H
    exact ⟨gx, ⟨rfl, trivial⟩, H.front 1 rfl⟩
  clear H qx4 bx4
  rintro g30 u w10 H
  replace H : Hp _ _ _ _ _ := H
  refine cut_rule (γ := Nat) _ rfl (fun g => [(32, .pointer (some ⟨g, 0, none⟩))]) (fun g32 w' => Hp w (fun _ => False) w' [arR ga q sv8 20000 A8, blk g32 24 (sc (lessN (allN (natsI ks).length) r)), blk g30 24 (sc (r &&& s ||| lessN t r)), blk g29 24 (sc (allN (natsI ks).length)), blk g8 24 (sc t), blk g7 24 (sc s), blk g6 24 (sc r)] (bdM g ga co B' (natsI ks) ++ [])) ?_ ?_
  · have hc := c110b ho x5 (by omega) _ hA8 hok8 H.bdAt'
    rw [if_pos qx5.there, not_set ho qx5] at hc
    refine call_fn hc ?_
    rintro _ w9 ⟨rfl, hk⟩
    replace H := H.same hk
    clear hk
    refine H.alloc 24 (cs := sc 0) zero24 sc_zero ?_
    clear H
    intro gx w4 H
    refine H.storeSet 0 rfl ?_
    clear H
    intro w5 H
    exact ⟨gx, ⟨rfl, trivial⟩, H.front 1 rfl⟩
  clear H qx5 bx5
  rintro g32 u w10 H
  replace H : Hp _ _ _ _ _ := H
  refine cut_rule (γ := Nat) _ rfl (fun g => [(34, .pointer (some ⟨g, 0, none⟩))]) (fun g34 w' => Hp w (fun _ => False) w' [arR ga q sv8 20000 A8, blk g34 24 (sc (r &&& s)), blk g32 24 (sc (lessN (allN (natsI ks).length) r)), blk g30 24 (sc (r &&& s ||| lessN t r)), blk g29 24 (sc (allN (natsI ks).length)), blk g8 24 (sc t), blk g7 24 (sc s), blk g6 24 (sc r)] (bdM g ga co B' (natsI ks) ++ [])) ?_ ?_
  · have hc := c110b ho x6 (by omega) _ hA8 hok8 H.bdAt'
    rw [if_pos qx6.there, and_set ho hr hrz qx6] at hc
    refine call_fn hc ?_
    rintro _ w9 ⟨rfl, hk⟩
    replace H := H.same hk
    clear hk
    refine H.alloc 24 (cs := sc 0) zero24 sc_zero ?_
    clear H
    intro gx w4 H
    refine H.storeSet 0 rfl ?_
    clear H
    intro w5 H
    exact ⟨gx, ⟨rfl, trivial⟩, H.front 1 rfl⟩
  clear H qx6 bx6
  rintro g34 u w10 H
  replace H : Hp _ _ _ _ _ := H
  refine cut_rule (γ := Nat) _ rfl (fun g => [(36, .pointer (some ⟨g, 0, none⟩))]) (fun g36 w' => Hp w (fun _ => False) w' [arR ga q sv8 20000 A8, blk g36 24 (sc (r ||| s)), blk g34 24 (sc (r &&& s)), blk g32 24 (sc (lessN (allN (natsI ks).length) r)), blk g30 24 (sc (r &&& s ||| lessN t r)), blk g29 24 (sc (allN (natsI ks).length)), blk g8 24 (sc t), blk g7 24 (sc s), blk g6 24 (sc r)] (bdM g ga co B' (natsI ks) ++ [])) ?_ ?_
  · have hc := c110b ho x7 (by omega) _ hA8 hok8 H.bdAt'
    rw [if_pos qx7.there, or_set ho hr hs hrz hsz qx7] at hc
    refine call_fn hc ?_
    rintro _ w9 ⟨rfl, hk⟩
    replace H := H.same hk
    clear hk
    refine H.alloc 24 (cs := sc 0) zero24 sc_zero ?_
    clear H
    intro gx w4 H
    refine H.storeSet 0 rfl ?_
    clear H
    intro w5 H
    exact ⟨gx, ⟨rfl, trivial⟩, H.front 1 rfl⟩
  clear H qx7 bx7
  rintro g36 u w10 H
  replace H : Hp _ _ _ _ _ := H
  have z1 : r &&& s < 2 ^ 256 := Nat.lt_of_le_of_lt Nat.and_le_left hr
  have z2 : r ||| s < 2 ^ 256 := Nat.or_lt_two_pow hr hs
  have z3 : lessN t r < 2 ^ 256 := setOf_lt _
  have z4 : lessN (allN (natsI ks).length) r < 2 ^ 256 := setOf_lt _
  have z5 : r &&& s ||| lessN t r < 2 ^ 256 := Nat.or_lt_two_pow z1 z3
  have z6 : allN (natsI ks).length < 2 ^ 256 := allN_lt _
  refine cut_rule (γ := Unit) _ rfl (fun _ => []) (fun _ w' => Hp w (fun _ => False) w' [arR ga q sv8 20000 A8, blk g8 24 (sc t), blk g7 24 (sc s), blk g6 24 (sc r)] (bdM g ga co B' (natsI ks) ++ [])) ?_ ?_
  · refine H.draw fol (by kernel_rfl) ?_
    clear H
    intro w11 H
    refine quiet _ (fun w H => H.loadAll 4 rfl agg24 size24 ⟨rfl, rfl⟩) ?_
    refine quiet _ (fun w H => H.loadAll 8 rfl agg24 size24 ⟨rfl, rfl⟩) ?_
    refine quiet _ (fun w H => H.loadAll 7 rfl agg24 size24 ⟨rfl, rfl⟩) ?_
    refine call_fn (c51 _ _ _) ?_
    rintro _ w15 ⟨rfl, hk⟩
    replace H := H.same hk
    clear hk
    refine ⟨.inl H, ?_⟩
    refine quiet _ (fun w H => H.loadAll 6 rfl agg24 size24 ⟨rfl, rfl⟩) ?_
    refine quiet _ (fun w H => H.loadAll 8 rfl agg24 size24 ⟨rfl, rfl⟩) ?_
    refine call_fn (c52 _ _ (by assumption) _) ?_
    rintro _ w19 ⟨rfl, hk⟩
    replace H := H.same hk
    clear hk
    refine ⟨.inl H, ?_⟩
    refine call_fn (c50 _ _ _) ?_
    rintro _ w22 ⟨rfl, hk⟩
    replace H := H.same hk
    clear hk
    refine ⟨.inl H, ?_⟩
    refine quiet _ (fun w H => bin_neq24 (by first | assumption | decide) (by first | assumption | decide) ⟨rfl, rfl⟩) ?_
    refine cond_no (bne_eq_false_iff_eq.2 (by omega)) ?_
    refine quiet _ (fun w H => H.loadAll 3 rfl agg24 size24 ⟨rfl, rfl⟩) ?_
    refine cond_no (bne_eq_false_iff_eq.2 (by omega)) ?_
    refine quiet _ (fun w H => H.loadAll 5 rfl agg24 size24 ⟨rfl, rfl⟩) ?_
    refine cond_no (bne_eq_false_iff_eq.2 (by omega)) ?_
    refine quiet _ (fun w H => H.loadAll 8 rfl agg24 size24 ⟨rfl, rfl⟩) ?_
    refine cond_no (bne_eq_false_iff_eq.2 (by omega)) ?_
    refine call_fn (c52 _ _ (by assumption) _) ?_
    rintro _ w37 ⟨rfl, hk⟩
    replace H := H.same hk
    clear hk
    refine ⟨.inl H, ?_⟩
    refine cond_no (bne_eq_false_iff_eq.2 (by omega)) ?_
    refine quiet _ (fun w H => bin_neq24 z4 z4 ⟨rfl, rfl⟩) ?_
    iterate 2 refine cond_no (bne_eq_false_iff_eq.2 (by omega)) ?_
    refine quiet _ (fun w H => H.loadAll 2 rfl agg24 size24 ⟨rfl, rfl⟩) ?_
    refine cond_no (bne_eq_false_iff_eq.2 (by omega)) ?_
    refine quiet _ (fun w H => H.loadAll 8 rfl agg24 size24 ⟨rfl, rfl⟩) ?_
    refine cond_no (bne_eq_false_iff_eq.2 (by omega)) ?_
    refine quiet _ (fun w H => H.loadAll 7 rfl agg24 size24 ⟨rfl, rfl⟩) ?_
    refine cond_no (bne_eq_false_iff_eq.2 (by omega)) ?_
    refine call_fn (c51 _ _ _) ?_
    rintro _ w25 ⟨rfl, hk⟩
    replace H := H.same hk
    clear hk
    refine ⟨.inl H, ?_⟩
    refine cond_no (bne_eq_false_iff_eq.2 (by omega)) ?_
    refine quiet _ (fun w H => bin_neq24 z1 z1 ⟨rfl, rfl⟩) ?_
    iterate 2 refine cond_no (bne_eq_false_iff_eq.2 (by omega)) ?_
    refine quiet _ (fun w H => H.loadAll 1 rfl agg24 size24 ⟨rfl, rfl⟩) ?_
    refine cond_no (bne_eq_false_iff_eq.2 (by omega)) ?_
    refine quiet _ (fun w H => H.loadAll 8 rfl agg24 size24 ⟨rfl, rfl⟩) ?_
    refine cond_no (bne_eq_false_iff_eq.2 (by omega)) ?_
    refine quiet _ (fun w H => H.loadAll 7 rfl agg24 size24 ⟨rfl, rfl⟩) ?_
    refine cond_no (bne_eq_false_iff_eq.2 (by omega)) ?_
    refine call_fn (c50 _ _ _) ?_
    rintro _ w43 ⟨rfl, hk⟩
    replace H := H.same hk
    clear hk
    refine ⟨.inl H, ?_⟩
    refine cond_no (bne_eq_false_iff_eq.2 (by omega)) ?_
    refine quiet _ (fun w H => bin_neq24 z2 z2 ⟨rfl, rfl⟩) ?_
    iterate 2 refine cond_no (bne_eq_false_iff_eq.2 (by omega)) ?_
    exact ⟨(), trivial, (((((H.front 1 rfl).forget.front 1 rfl).forget.front 1 rfl).forget.front 1 rfl).forget.front 1 rfl).forget⟩
  clear H
  rintro ⟨⟩ u w11 H
  replace H : Hp _ _ _ _ _ := H
  rcases hsome with ⟨hno, rfl, rfl⟩ | ⟨i, rfl, hi, rfl, hrep⟩
  · rw [hkl] at hno
    by_cases h0 : input < 0
    · iterate 5 refine cond_yes (decide_eq_true (by assumption)) ?_
      iterate 5 refine cond_yes rfl ?_
      refine call_fn (c106 _) ?_
      rintro _ w23 ⟨rfl, hk⟩
      replace H := H.same hk
      clear hk
      refine cond_yes rfl ?_
      exact ⟨rfl, H.keeps⟩
    · have h1 : (ks.length : Int) ≤ input := by omega
      iterate 3 refine cond_no (decide_eq_false (by assumption)) ?_
      refine len_sl Try.underlying32 ?_
      iterate 2 refine cond_no (decide_eq_false (by assumption)) ?_
      refine cond_yes (decide_eq_true (by assumption)) ?_
      iterate 4 refine cond_yes rfl ?_
      refine call_fn (c106 _) ?_
      rintro _ w24 ⟨rfl, hk⟩
      replace H := H.same hk
      clear hk
      refine cond_yes rfl ?_
      exact ⟨rfl, H.keeps⟩
  have hset := some_set ho hr hrz hi hrep
  have hi' : i < ks.length := by omega
  have bx8 := id_lt hok8 hrep.there
  have hpl : (pts r).length ≤ 256 := bitsBelow_le r 256
  have hpt : ∀ x, x ∈ pts r → x < 2 ^ (natsI ks).length := fun x hx => less_all hr hrz x (mem_bitsBelow.1 hx).2
  have h256 := pow_le_256 ho8
  refine cut_rule (γ := Unit) _ rfl (fun _ => []) (fun _ w' => Hp w (fun _ => False) w' [arR ga q sv8 20000 A8, blk g8 24 (sc t), blk g7 24 (sc s), blk g6 24 (sc r)] (bdM g ga co B' (natsI ks) ++ [])) ?_ ?_
  · iterate 3 refine cond_no rfl ?_
    refine len_sl Try.underlying32 ?_
    iterate 2 refine cond_no rfl ?_
    refine cond_no (decide_eq_false (by omega)) ?_
    exact ⟨(), trivial, H⟩
  clear H
  rintro ⟨⟩ u w12 H
  replace H : Hp _ _ _ _ _ := H
  refine cut_rule (γ := Nat) _ rfl (fun gw => [(38, .slice (some ⟨gw, 0, none⟩) 256 256)]) (fun gw w' => Hp w (fun _ => False) w' [arR ga q sv8 20000 A8, own 4 1 (.slice (some ⟨gw, 0, none⟩) 256 256) 256 (bls (wantL [] i)), blk g8 24 (sc t), blk g7 24 (sc s), blk g6 24 (sc r)] (bdM g ga co B' (natsI ks) ++ [])) ?_ ?_
  · refine H.make T29 256 rfl rfl (by omega) (by omega) ?_
    clear H
    intro gw w13 H
    have e : bls (wantL [] i) = List.replicate 256 (.bool false) := by rw [wantL_nil]; exact List.map_replicate
    rw [madeBool, ← e] at H
    exact ⟨gw, ⟨rfl, trivial⟩, H.front 1 rfl⟩
  clear H
  rintro gw u w13 H
  replace H : Hp _ _ _ _ _ := H
  refine cut_rule (γ := Option Addr × Nat) _ rfl (fun (C, d) => [(39, .slice C (pts r).length d)]) (fun (C, d) w' => Hp w (fun _ => False) w' [arR ga q sv8 20000 A8, own 4 1 (.slice (some ⟨gw, 0, none⟩) 256 256) 256 (bls (wantL [] i)), own 3 1 (.slice C (pts r).length d) (pts r).length (ints (pts r)), blk g8 24 (sc t), blk g7 24 (sc s), blk g6 24 (sc r)] (bdM g ga co B' (natsI ks) ++ [])) ?_ ?_
  · refine H.loadAll 4 rfl agg24 size24 ?_
    refine call_fn (c42 r _) ?_
    rintro _ w14 ⟨C, d, rfl, hn⟩
    exact ⟨(C, d), ⟨rfl, trivial⟩, (((H.addNew hn).front 2 rfl).front 2 rfl)⟩
  clear H
  rintro ⟨C, d⟩ u w14 H
  replace H : Hp _ _ _ _ _ := H
  refine cut_rule (γ := Unit) _ rfl (fun _ => []) (fun _ w' => Hp w (fun _ => False) w' [arR ga q sv8 20000 A8, own 4 1 (.slice (some ⟨gw, 0, none⟩) 256 256) 256 (bls (wantL (pts r) i)), own 3 1 (.slice C (pts r).length d) (pts r).length (ints (pts r)), blk g8 24 (sc t), blk g7 24 (sc s), blk g6 24 (sc r)] (bdM g ga co B' (natsI ks) ++ [])) ?_ ?_
  · refine loop_rule (γ := Nat) _ rfl (fun j => [(40, .int .i64 (j : Int))]) (fun j w' => j ≤ (pts r).length ∧ Hp w (fun _ => False) w' [arR ga q sv8 20000 A8, own 4 1 (.slice (some ⟨gw, 0, none⟩) 256 256) 256 (bls (wantL ((pts r).take j) i)), own 3 1 (.slice C (pts r).length d) (pts r).length (ints (pts r)), blk g8 24 (sc t), blk g7 24 (sc s), blk g6 24 (sc r)] (bdM g ga co B' (natsI ks) ++ [])) (fun j => (pts r).length - j) 0 ⟨rfl, trivial⟩ ⟨Nat.zero_le _, H⟩ ?_
    clear H
    rintro j u w15 ⟨hj, H⟩
    replace H : Hp _ _ _ _ _ := H
    refine len_sl Try.underlying32 ?_
    refine cond_dec (fun h7 => ?_) (fun h7 => ?_)
    · have hjl : j < (pts r).length := by omega
      obtain ⟨x, hx⟩ : ∃ x, (pts r)[j]? = some x := ⟨_, List.getElem?_eq_getElem hjl⟩
      have hxm := List.mem_of_getElem? hx
      have hx2 := hpt x hxm
      have hfl := flip_lt hx2 (show i < (natsI ks).length from hi)
      have hgx : (ints (pts r))[j]? = some (.int .i64 (x : Int)) := by rw [ints, List.getElem?_map, hx]; rfl
      have htk : (pts r).take (j + 1) = (pts r).take j ++ [x] := by rw [List.take_add_one, hx]; rfl
      obtain ⟨gC, rfl⟩ := H.ownA 2 rfl (by omega)
      have hpow : ∀ m, m ≤ 8 → 2 ^ m ≤ 256 := fun m hm => pow_le_256 hm
      refine cut_rule (γ := Unit) _ rfl (fun _ => []) (fun _ w' => Hp w (fun _ => False) w' [arR ga q sv8 20000 A8, own 4 1 (.slice (some ⟨gw, 0, none⟩) 256 256) 256 (bls (wantL ((pts r).take (j + 1)) i)), own 3 1 (.slice (some ⟨gC, 0, none⟩) (pts r).length d) (pts r).length (ints (pts r)), blk g8 24 (sc t), blk g7 24 (sc s), blk g6 24 (sc r)] (bdM g ga co B' (natsI ks) ++ [])) ?_ ?_
      · refine cut_rule (γ := Unit) _ rfl (fun _ => [(41, .int .i64 1)]) (fun _ w' => Hp w (fun _ => False) w' [arR ga q sv8 20000 A8, own 4 1 (.slice (some ⟨gw, 0, none⟩) 256 256) 256 (bls (wantL ((pts r).take j) i)), own 3 1 (.slice (some ⟨gC, 0, none⟩) (pts r).length d) (pts r).length (ints (pts r)), blk g8 24 (sc t), blk g7 24 (sc s), blk g6 24 (sc r)] (bdM g ga co B' (natsI ks) ++ [])) ⟨(), ⟨rfl, trivial⟩, H⟩ ?_
        clear H
        rintro ⟨⟩ u w16 H
        replace H : Hp _ _ _ _ _ := H
        refine cut_rule (γ := Unit) _ rfl (fun _ => [(41, .int .i64 ((2 ^ i : Nat) : Int))]) (fun _ w' => Hp w (fun _ => False) w' [arR ga q sv8 20000 A8, own 4 1 (.slice (some ⟨gw, 0, none⟩) 256 256) 256 (bls (wantL ((pts r).take j) i)), own 3 1 (.slice (some ⟨gC, 0, none⟩) (pts r).length d) (pts r).length (ints (pts r)), blk g8 24 (sc t), blk g7 24 (sc s), blk g6 24 (sc r)] (bdM g ga co B' (natsI ks) ++ [])) ?_ ?_
        · refine loop_rule (γ := Nat) _ rfl (fun m => [(42, .int .i64 (m : Int)), (41, .int .i64 ((2 ^ m : Nat) : Int))]) (fun m w' => m ≤ i ∧ Hp w (fun _ => False) w' [arR ga q sv8 20000 A8, own 4 1 (.slice (some ⟨gw, 0, none⟩) 256 256) 256 (bls (wantL ((pts r).take j) i)), own 3 1 (.slice (some ⟨gC, 0, none⟩) (pts r).length d) (pts r).length (ints (pts r)), blk g8 24 (sc t), blk g7 24 (sc s), blk g6 24 (sc r)] (bdM g ga co B' (natsI ks) ++ [])) (fun m => i - m) 0 ⟨rfl, rfl, trivial⟩ ⟨Nat.zero_le _, H⟩ ?_
          clear H
          rintro m u w17 ⟨hm, H⟩
          replace H : Hp _ _ _ _ _ := H
          refine cond_dec (fun h9 => ?_) (fun h9 => ?_)
          · have h2 := hpow m (by omega)
            have e : 2 ^ (m + 1) = 2 ^ m * 2 := Nat.pow_succ ..
            exact ⟨m + 1, by show i - (m + 1) < i - m; omega, ⟨up (by omega), congrArg (Value.int .i64) (by rw [wrap_i64_in (by omega) (by omega)]; omega), trivial⟩, by show m + 1 ≤ i; omega, H⟩
          · obtain rfl : m = i := by omega
            exact ⟨(), ⟨rfl, trivial⟩, H⟩
        clear H
        rintro ⟨⟩ u w17 H
        replace H : Hp _ _ _ _ _ := H
        have h2i := hpow i (by omega)
        refine cut_rule (γ := Unit) _ rfl (fun _ => []) (fun _ w' => Hp w (fun _ => False) w' [arR ga q sv8 20000 A8, own 4 1 (.slice (some ⟨gw, 0, none⟩) 256 256) 256 (bls ((wantL ((pts r).take j) i).set x true)), own 3 1 (.slice (some ⟨gC, 0, none⟩) (pts r).length d) (pts r).length (ints (pts r)), blk g8 24 (sc t), blk g7 24 (sc s), blk g6 24 (sc r)] (bdM g ga co B' (natsI ks) ++ [])) ?_ ?_
        · refine idxAddr_sl Try.underlying32 (s := 1) size3 j rfl hjl (o' := j) (by omega) ?_
          refine H.loadOwn 2 rfl agg3 hgx ?_
          refine idxAddr_sl Try.underlying29 (s := 1) size4 x rfl (by omega) (o' := x) (by omega) ?_
          refine H.storeOwn 1 rfl size4 (by rw [bls, List.length_map, wantL_length]; omega) rfl ?_
          clear H
          intro w18 H
          rw [show (bls (wantL ((pts r).take j) i)).set x (.bool true) = bls ((wantL ((pts r).take j) i).set x true) from List.map_set.symm] at H
          exact ⟨(), trivial, H⟩
        clear H
        rintro ⟨⟩ u w18 H
        replace H : Hp _ _ _ _ _ := H
        have hsn := wantL_snoc ((pts r).take j) i x
        rw [← htk] at hsn
        have hfin : ∀ w2 gx, gx = x ^^^ 2 ^ i → Hp w (fun _ => False) w2 [arR ga q sv8 20000 A8, own 4 1 (.slice (some ⟨gw, 0, none⟩) 256 256) 256 ((bls ((wantL ((pts r).take j) i).set x true)).set gx (.bool true)), own 3 1 (.slice (some ⟨gC, 0, none⟩) (pts r).length d) (pts r).length (ints (pts r)), blk g8 24 (sc t), blk g7 24 (sc s), blk g6 24 (sc r)] (bdM g ga co B' (natsI ks) ++ []) →
            Hp w (fun _ => False) w2 [arR ga q sv8 20000 A8, own 4 1 (.slice (some ⟨gw, 0, none⟩) 256 256) 256 (bls (wantL ((pts r).take (j + 1)) i)), own 3 1 (.slice (some ⟨gC, 0, none⟩) (pts r).length d) (pts r).length (ints (pts r)), blk g8 24 (sc t), blk g7 24 (sc s), blk g6 24 (sc r)] (bdM g ga co B' (natsI ks) ++ []) := fun w2 gx hgx H => by
          subst hgx
          rw [← hsn]
          rwa [show (bls ((wantL ((pts r).take j) i).set x true)).set (x ^^^ 2 ^ i) (.bool true) = bls (((wantL ((pts r).take j) i).set x true).set (x ^^^ 2 ^ i) true) from List.map_set.symm] at H
        refine idxAddr_sl Try.underlying32 (s := 1) size3 j rfl hjl (o' := j) (by omega) ?_
        refine H.loadOwn 2 rfl agg3 hgx ?_
        refine call_fn (c48 x i (by omega) (by omega) _) ?_
        rintro _ w19 ⟨rfl, hk⟩
        replace H := H.same hk
        clear hk
        refine cond_beq (fun hb => ?_) (fun hb => ?_)
        · have hbit : x.testBit i = true := by
            have := div_pow_mod x i
            rw [decide_eq_true hb] at this
            exact this.symm
          obtain ⟨hle, hfe⟩ := flip_down hbit
          refine idxAddr_sl Try.underlying32 (s := 1) size3 j rfl hjl (o' := j) (by omega) ?_
          refine H.loadOwn 2 rfl agg3 hgx ?_
          refine idxAddr_sl Try.underlying29 (s := 1) size4 (x ^^^ 2 ^ i) (by rw [wrap_i64_in (by omega) (by omega)]; omega) (by omega) (o' := x ^^^ 2 ^ i) (by omega) ?_
          refine H.storeOwn 1 rfl size4 (by rw [bls, List.length_map, List.length_set, wantL_length]; omega) rfl ?_
          clear H
          intro w20 H
          exact ⟨(), trivial, hfin _ _ rfl H⟩
        · have hbit : x.testBit i = false := by
            have := div_pow_mod x i
            rw [decide_eq_false hb] at this
            exact this.symm
          have hfe := flip_up hbit
          refine idxAddr_sl Try.underlying32 (s := 1) size3 j rfl hjl (o' := j) (by omega) ?_
          refine H.loadOwn 2 rfl agg3 hgx ?_
          refine idxAddr_sl Try.underlying29 (s := 1) size4 (x ^^^ 2 ^ i) (by rw [wrap_i64_in (by omega) (by omega)]; omega) (by omega) (o' := x ^^^ 2 ^ i) (by omega) ?_
          refine H.storeOwn 1 rfl size4 (by rw [bls, List.length_map, List.length_set, wantL_length]; omega) rfl ?_
          clear H
          intro w20 H
          exact ⟨(), trivial, hfin _ _ rfl H⟩
      · clear H
        rintro ⟨⟩ u w16 H
        exact ⟨j + 1, by show (pts r).length - (j + 1) < (pts r).length - j; omega, ⟨up (by omega), trivial⟩, by show j + 1 ≤ (pts r).length; omega, H⟩
    · rw [List.take_of_length_le (by omega)] at H
      exact ⟨(), trivial, H⟩
  clear H
  rintro ⟨⟩ u w15 H
  replace H : Hp _ _ _ _ _ := H
  have hwant := someN_want (n := (natsI ks).length) hr (less_all hr hrz) hi ho8
  have hsl : someN r i < 2 ^ 256 := setOf_lt _
  refine cut_rule (γ := Nat) _ rfl (fun g43 => [(43, .pointer (some ⟨g43, 0, none⟩))]) (fun g43 w' => Hp w (fun _ => False) w' [blk g43 24 (sc (someN r i)), own 4 1 (.slice (some ⟨gw, 0, none⟩) 256 256) 256 (bls (wantL (pts r) i))] (bdM g ga co B' (natsI ks) ++ [])) ?_ ?_
  · have hc := c110b ho x8 (by omega) _ hA8 hok8 H.bdAt'
    rw [if_pos hrep.there, hset] at hc
    refine call_fn hc ?_
    rintro _ w9 ⟨rfl, hk⟩
    replace H := H.same hk
    clear hk
    refine H.alloc 24 (cs := sc 0) zero24 sc_zero ?_
    clear H
    intro gx w4 H
    refine H.storeSet 0 rfl ?_
    clear H
    intro w5 H
    exact ⟨gx, ⟨rfl, trivial⟩, ((H.front 1 rfl).forget.takeN 2)⟩
  clear H
  rintro g43 u w16 H
  replace H : Hp _ _ _ _ _ := H
  have hc := fun w1 hs => c38 (wantL (pts r) i) (wantL_length _ _) (some ⟨gw, 0, none⟩) 256 w1 hs
  rw [hwant] at hc
  refine H.draw fol (by kernel_rfl) ?_
  clear H
  intro w17 H
  refine cond_yes rfl ?_
  refine quiet _ (fun w H => H.loadAll 0 rfl agg24 size24 ⟨rfl, rfl⟩) ?_
  iterate 2 refine cond_yes rfl ?_
  refine call_fn (hc _ (own_Sl (H.get 1 rfl))) ?_
  rintro _ w23 ⟨rfl, hk⟩
  replace H := H.same hk
  refine ⟨.inl H, ?_⟩
  refine cond_yes rfl ?_
  refine quiet _ (fun w H => bin_eql24 (by first | assumption | decide) (by first | assumption | decide) ⟨rfl, rfl⟩) ?_
  refine cond_yes rfl ?_
  refine cond_yes (beq_self_eq_true _) ?_
  refine call_fn (c106 _) ?_
  rintro _ w31 ⟨rfl, hk⟩
  replace H := H.same hk
  clear hk
  refine ⟨.inl H, ?_⟩
  refine cond_yes (beq_self_eq_true _) ?_
  exact ⟨rfl, H.keeps⟩
theorem law27 (v : Value) (r : Nat) (hr : r < 2 ^ 256) (s : Nat) (hs : s < 2 ^ 256) (t : Nat) (ht : t < 2 ^ 256) (input : Int) (w : World) {ks : List Int} (hk : IntsAt w v ks) : Fun Try.prog 27 [v, sv r, sv s, sv t, .int .i64 input] w fun v w' => v = .bool true ∧ Same w w' := by
  obtain ⟨B, c, rfl, hl, _, hS⟩ := hk
  exact law27_m ks B c r s t hr hs ht input w hl hS
end Go.Proofs.Ytjebpngdinbckaa
end

section
/- Diagrams composed: an input fixed by And and Some. -/
namespace Go.Proofs.Ytjebpngdinbckaa
open Go.Dk
attribute [local irreducible] IntKind.wrap

def halfF (F : Dk.Fn) (lev : Nat) (v : Bool) : Dk.Fn := fun a => F (upA a lev v)
theorem made_D {n : Nat} {room : Int} {A A' : Ar} {F : Dk.Fn} {id e : Int} (h : Made n room A A' F id e) {D : List Nat} (hD : Hangs D F) {q : Nat} (hq : liveA A ≤ q) (hr : (q : Int) + (2 ^ D.length : Nat) ≤ room) : e = 0 ∧ Rep A' id F ∧ liveA A' ≤ q + (2 ^ D.length - 1) := by
  have h1 := made_few h hD
  have hc : (2 : Int) ^ D.length = ((2 ^ D.length : Nat) : Int) := by simp
  obtain ⟨he, hrep⟩ := made_ok h hD (by rw [hc]; omega)
  exact ⟨he, hrep, by omega⟩
theorem half_hangs {D : List Nat} {F : Dk.Fn} (hD : Hangs D F) (lev : Nat) (v : Bool) : Hangs (D.filter (· != lev)) (halfF F lev v) := fun a b hab => hD _ _ fun j hj => by
  unfold upA
  by_cases h : j = lev
  · rw [if_pos h, if_pos h]
  · rw [if_neg h, if_neg h]
    exact hab j (List.mem_filter.2 ⟨hj, by simpa using h⟩)
theorem filter_less {D : List Nat} {lev : Nat} (h : lev ∈ D) : (D.filter (· != lev)).length + 1 ≤ D.length := by
  induction D with
  | nil => cases h
  | cons x D ih =>
    rw [List.filter_cons]
    by_cases hx : x = lev
    · subst hx
      simp only [bne_self_eq_false, Bool.false_eq_true, if_false]
      have := List.length_filter_le (· != x) D
      simp only [List.length_cons]; omega
    · have hl : lev ∈ D := by
        rcases List.mem_cons.1 h with h | h
        · exact absurd h.symm hx
        · exact h
      have : (x != lev) = true := by simpa using hx
      rw [if_pos this]
      have := ih hl
      simp only [List.length_cons]; omega
theorem some_half {n : Nat} {room : Int} {A A' : Ar} {x : Int} {lev : Nat} {id e : Int} (h : SomeR n room A A' x lev id e) (hA : BInv n A) {F : Dk.Fn} {v : Bool} (hx : Rep A x fun a => F a && (a lev == v)) {D : List Nat} (hD : Hangs D F) (hl : lev ∈ D)
    {q : Nat} (hq : liveA A ≤ q) (hr : (q : Int) + (2 ^ D.length : Nat) ≤ room) : e = 0 ∧ Rep A' id (halfF F lev v) ∧ liveA A' + 2 ≤ q + 2 ^ D.length ∧ Ext A A' ∧ BInv n A' := by
  have hless := filter_less hl
  have hh := half_hangs hD lev v
  have hp : 2 * 2 ^ (D.filter (· != lev)).length ≤ 2 ^ D.length := by
    have : 2 ^ ((D.filter (· != lev)).length + 1) ≤ 2 ^ D.length := Nat.pow_le_pow_right (by decide) hless
    rw [Nat.pow_succ] at this
    omega
  have hp1 := Nat.one_le_two_pow (n := (D.filter (· != lev)).length)
  generalize hP : 2 ^ (D.filter (· != lev)).length = P at hp hp1
  have hfix : ∀ b, fixF A x lev b = fun a => halfF F lev b a && (b == v) := fun b => by
    funext a
    unfold fixF halfF
    rw [hx.says, upA_same]
  -- each of the two: nothing new where the value is the other one
  have each : ∀ {A1 A2 : Ar} {b : Bool} {y e1 : Int} {p : Nat}, Made n room A1 A2 (fixF A x lev b) y e1 → liveA A1 ≤ p → (p : Int) + P ≤ room → e1 = 0 ∧ Rep A2 y (fixF A x lev b) ∧ liveA A2 ≤ p + (if b = v then P - 1 else 0) := by
    intro A1 A2 b y e1 p hm hp1' hpr
    by_cases hb : b = v
    · subst hb
      have hF : fixF A x lev b = halfF F lev b := by rw [hfix]; funext a; simp
      rw [hF] at hm ⊢
      obtain ⟨h1, h2, h3⟩ := made_D hm hh hp1' (by rw [hP]; exact hpr)
      rw [hP] at h3
      exact ⟨h1, h2, by rw [if_pos rfl]; exact h3⟩
    · have hF : fixF A x lev b = fun _ => false := by
        rw [hfix]; funext a
        have : (b == v) = false := by simpa using hb
        rw [this, Bool.and_false]
      rw [hF] at hm ⊢
      obtain ⟨h1, h2, h3⟩ := made_D hm (D := []) (fun _ _ _ => rfl) hp1' (by simp; omega)
      exact ⟨h1, h2, by rw [if_neg hb]; simpa using h3⟩
  rcases h with ⟨y, m1, he, _⟩ | ⟨A1, y, z, m1, m2, he, _⟩ | ⟨A1, A2, y, z, m1, m2, m3⟩
  · exact absurd (each m1 hq (by omega)).1 he
  · obtain ⟨_, _, l1⟩ := each m1 hq (by omega)
    exact absurd (each m2 l1 (by split <;> omega)).1 he
  · obtain ⟨_, r1, l1⟩ := each m1 hq (by omega)
    obtain ⟨_, r2, l2⟩ := each m2 l1 (by split <;> omega)
    have l2' : liveA A2 ≤ q + (P - 1) := by
      cases v
      · simp at l1 l2; omega
      · simp at l1 l2; omega
    have hF : iteF A2 y 1 z = halfF F lev v := by
      funext a
      unfold iteF
      rw [(r1.ext m1.inv.inv m2.inv.inv m2.ext).says, r2.says, sem_none (nd_end (.inr rfl)), hfix, hfix]
      cases v <;> simp
    rw [hF] at m3
    obtain ⟨h1, h2, h3⟩ := made_D m3 hh l2' (by rw [hP]; omega)
    rw [hP] at h3
    exact ⟨h1, h2, by omega, (m1.ext.trans m2.ext).trans m3.ext, m3.inv⟩
theorem tb_half (n i : Nat) (one : Bool) (p : Nat) : (halfN n i one).testBit p = (decide (p < 256) && (n.testBit p && (p.testBit i == one))) := by unfold halfN; rw [testBit_setOf]
/-- The points whose bit is so, as a diagram says them. -/
theorem lit_fn {o : List Nat} (ho : OrdO o) {i : Nat} (hi : i < o.length) (v : Bool) : FnS o (halfN (allN o.length) i v) = fun a => a (o.idxOf i) == v := by
  funext a
  unfold FnS
  have hp := ptA_lt o a
  have h256 := pow_le_256 ho.le
  rw [tb_half, decide_eq_true (by omega), Bool.true_and, testBit_ptA a hi]
  unfold allN
  rw [testBit_setOf, decide_eq_true (by omega), decide_eq_true hp]; rfl
theorem lit_within {n i : Nat} (v : Bool) : lessN (halfN (allN n) i v) (allN n) = 0 := by
  refine set_ext (setOf_lt _) (by decide) fun p hp => ?_
  rw [testBit_lessN (halfN_lt _ _ _), tb_half, Nat.zero_testBit]
  cases (allN n).testBit p <;> simp
theorem ent219 : enters Try.prog 219 = true := by kernel_rfl
theorem c219 {o : List Nat} (ho : OrdO o) (hn : o.length ≤ 8) {g ga r co : Nat} {B : Option Addr} {room : Int} {A : Ar} {sv0 : Value} (i : Nat) (v : Bool) (hi : i < o.length) (w : World) (hA : BInv o.length A) (hok : ArOk room A) (hbd : BdAt w g ga r co B o sv0 room A) :
    Fun Try.prog 219 [.pointer (some ⟨g, 0, none⟩), .int .i64 (o.length : Int), .int .i64 (i : Int), .bool v] w fun x w' => ∃ A' sv' id e, x = .tuple #[.int .i64 id, .int .i64 e] ∧ Made o.length room A A' (fun a => a (o.idxOf i) == v) id e ∧ ArOk room A' ∧ Turn w w' (arR ga r sv0 room A) (arR ga r sv' room A') := by
  refine fun_of_W (N := 25) Try.func219 ent219 rfl rfl rfl (by simp) ?_
  have H := hbd.start
  refine cut_rule (γ := Unit) _ rfl (fun _ => []) (fun _ w' => Hp w (arR ga r sv0 room A).foot w' [arR ga r sv0 room A] (bdM g ga co B o)) ⟨(), trivial, H⟩ ?_
  clear H
  rintro ⟨⟩ u w0 H
  replace H : Hp _ _ _ _ _ := H
  refine cut_rule (γ := Nat) _ rfl (fun g10 => [(10, .pointer (some ⟨g10, 0, none⟩))]) (fun g10 w' => Hp w (arR ga r sv0 room A).foot w' [arR ga r sv0 room A, blk g10 24 (sc (allN o.length))] (bdM g ga co B o)) ?_ ?_
  · refine call_fn (c37_yes o.length hn _) ?_
    rintro _ w1 ⟨rfl, hk⟩
    replace H := H.same hk
    clear hk
    refine H.alloc 24 (cs := sc 0) zero24 sc_zero ?_
    clear H
    intro g10 w4 H
    refine H.storeSet 0 rfl ?_
    clear H
    intro w5 H
    exact ⟨g10, ⟨rfl, trivial⟩, H.front 1 rfl⟩
  clear H
  rintro g10 u w1 H
  replace H : Hp _ _ _ _ _ := H
  refine H.loadAll 1 rfl agg24 size24 ?_
  refine call_fn (c49_yes (allN o.length) i v (by omega) _) ?_
  rintro _ w2 ⟨rfl, hk⟩
  replace H := H.same hk
  clear hk
  refine call_fn (c108 ho hn (halfN_lt _ _ _) _ hA hok (H.bdAt 0 rfl fun s hs => hs)) ?_
  rintro _ w3 ⟨A', sv', id, e, rfl, (⟨h, _⟩ | ⟨_, hm⟩), hok', ht⟩
  · exact absurd (lit_within v) h
  rw [lit_fn ho hi] at hm
  exact ⟨A', sv', id, e, rfl, hm, hok', (H.turnBy 0 rfl ht).outTurn⟩
theorem ent208 : enters Try.prog 208 = true := by kernel_rfl
theorem c208 {o : List Nat} (ho : OrdO o) (hn : o.length ≤ 8) {g ga r co : Nat} {B : Option Addr} {A : Ar} {sv0 : Value} (f : Int) (i : Nat) (v : Bool) (hi : i < o.length) {F : Dk.Fn} (hf : Rep A f F) {D : List Nat} (hD : Hangs D F) (hl : o.idxOf i ∈ D) (w : World) (hA : BInv o.length A) (hok : ArOk 20000 A)
    {q : Nat} (hq : liveA A ≤ q) (hr : q + 2 * 2 ^ D.length ≤ 20000) (hbd : BdAt w g ga r co B o sv0 20000 A) :
    Fun Try.prog 208 [.pointer (some ⟨g, 0, none⟩), .int .i64 (o.length : Int), .int .i64 f, .int .i64 (i : Int), .bool v] w fun x w' => ∃ A' sv' id, x = .tuple #[.int .i64 id, .int .i64 0] ∧
      (ArOk 20000 A' ∧ BInv o.length A' ∧ Ext A A' ∧ liveA A' + 2 ≤ q + 2 * 2 ^ D.length ∧ Rep A' id (halfF F (o.idxOf i) v)) ∧ Turn w w' (arR ga r sv0 20000 A) (arR ga r sv' 20000 A') := by
  refine fun_of_W (N := 42) Try.func208 ent208 rfl rfl rfl (by simp) ?_
  have H := hbd.start
  have hp1 := Nat.one_le_two_pow (n := D.length)
  have hp2 : 2 ≤ 2 ^ D.length := by
    have : 0 < D.length := List.length_pos_of_mem hl
    have := Nat.pow_le_pow_right (n := 2) (by decide) this
    omega
  refine cut_rule (γ := Unit) _ rfl (fun _ => []) (fun _ w' => Hp w (arR ga r sv0 20000 A).foot w' [arR ga r sv0 20000 A] (bdM g ga co B o)) ⟨(), trivial, H⟩ ?_
  clear H
  rintro ⟨⟩ u w0 H
  replace H : Hp _ _ _ _ _ := H
  refine cut_rule (γ := Int × Value × Ar) _ rfl (fun (x, _) => [(12, .int .i64 x), (13, .int .i64 0)]) (fun (x, sv1, A1) w' => (ArOk 20000 A1 ∧ BInv o.length A1 ∧ Ext A A1 ∧ liveA A1 ≤ q + 1 ∧ Rep A1 x fun a => a (o.idxOf i) == v) ∧ Hp w (arR ga r sv0 20000 A).foot w' [arR ga r sv1 20000 A1] (bdM g ga co B o)) ?_ ?_
  · refine call_fn (c219 ho hn i v hi _ hA hok (H.bdAt 0 rfl fun s hs => hs)) ?_
    rintro _ w1 ⟨A1, sv1, x, e, rfl, hm, hok1, ht⟩
    obtain ⟨rfl, h2, h3⟩ := made_D hm (D := [o.idxOf i]) (fun a b hab => by rw [hab _ (.head _)]) hq (by simp; omega)
    exact ⟨(x, sv1, A1), ⟨rfl, rfl, trivial⟩, ⟨hok1, hm.inv, hm.ext, by simpa using h3, h2⟩, H.turnBy 0 rfl ht⟩
  clear H
  rintro ⟨x, sv1, A1⟩ u w1 ⟨⟨hok1, hA1, hx1, hl1, hlit⟩, H⟩
  replace H : Hp _ _ _ _ _ := H
  refine cut_rule (γ := Unit) _ rfl (fun _ => []) (fun _ w' => Hp w (arR ga r sv0 20000 A).foot w' [arR ga r sv1 20000 A1] (bdM g ga co B o)) ?_ ?_
  · refine cond_no (bne_self_eq_false _) ?_
    exact ⟨(), trivial, H⟩
  clear H
  rintro ⟨⟩ u w2 H
  replace H : Hp _ _ _ _ _ := H
  have hf1 := hf.ext hA.inv hA1.inv hx1
  have bf := id_lt hok1 hf1.there
  have bx := id_lt hok1 hlit.there
  refine cut_rule (γ := Int × Value × Ar) _ rfl (fun (x, _) => [(14, .int .i64 x), (13, .int .i64 0)]) (fun (x, sv2, A2) w' => (ArOk 20000 A2 ∧ BInv o.length A2 ∧ Ext A A2 ∧ liveA A2 ≤ q + 2 ^ D.length ∧ Rep A2 x fun a => F a && (a (o.idxOf i) == v)) ∧ Hp w (arR ga r sv0 20000 A).foot w' [arR ga r sv2 20000 A2] (bdM g ga co B o)) ?_ ?_
  · refine call_fn (c114 hn f x (by omega) (by omega) _ hA1 hok1 (H.bdAt 0 rfl fun s hs => hs)) ?_
    rintro _ w3 ⟨A2, sv2, y, e, rfl, hm, hok2, ht⟩
    have hm := hm.made hf1.there hlit.there (end_there _)
    rw [ite_and hf1 hlit] at hm
    obtain ⟨rfl, h2, h3⟩ := made_D hm (D := D) (fun a b hab => by rw [hD a b hab, hab _ hl]) hl1 (by omega)
    exact ⟨(y, sv2, A2), ⟨rfl, rfl, trivial⟩, ⟨hok2, hm.inv, hx1.trans hm.ext, by omega, h2⟩, H.turnBy 0 rfl ht⟩
  clear H
  rintro ⟨y, sv2, A2⟩ u w3 ⟨⟨hok2, hA2, hx2, hl2, hy⟩, H⟩
  replace H : Hp _ _ _ _ _ := H
  refine cut_rule (γ := Unit) _ rfl (fun _ => []) (fun _ w' => Hp w (arR ga r sv0 20000 A).foot w' [arR ga r sv2 20000 A2] (bdM g ga co B o)) ?_ ?_
  · refine cond_no (bne_self_eq_false _) ?_
    exact ⟨(), trivial, H⟩
  clear H
  rintro ⟨⟩ u w4 H
  replace H : Hp _ _ _ _ _ := H
  have by1 := id_lt hok2 hy.there
  refine call_fn (c129 ho hn y (i : Int) (by omega) _ hA2 hok2 (H.bdAt 0 rfl fun s hs => hs)) ?_
  rintro _ w5 ⟨A3, sv3, id, e, rfl, (⟨h, _⟩ | ⟨_, i', hii, _, hs⟩), hok3, ht⟩
  · exact absurd ⟨hy.there, by omega, by omega⟩ h
  obtain rfl : i = i' := by omega
  obtain ⟨rfl, h2, h3, hx3, hA3⟩ := some_half hs hA2 hy hD hl hl2 (by omega)
  exact ⟨A3, sv3, id, rfl, ⟨hok3, hA3, hx2.trans hx3, by omega, h2⟩, (H.turnBy 0 rfl ht).outTurn⟩
end Go.Proofs.Ytjebpngdinbckaa
end

section
/- Diagrams composed: fits, Within, Put. -/
namespace Go.Proofs.Ytjebpngdinbckaa
open Go.Dk
attribute [local irreducible] IntKind.wrap

theorem all_fn {o : List Nat} (ho : OrdO o) (k : Nat) (a : Asg) : FnS o (allN k) a = decide (ptA o a < 2 ^ k) := by
  unfold FnS
  have hp := ptA_lt o a
  have h256 := pow_le_256 ho.le
  unfold allN
  rw [testBit_setOf, decide_eq_true (show ptA o a < 256 by omega), Bool.true_and]
theorem all_within {k n : Nat} (h : k ≤ n) : lessN (allN k) (allN n) = 0 := by
  refine set_ext (setOf_lt _) (by decide) fun p hp => ?_
  have := Nat.pow_le_pow_right (n := 2) (by decide) h
  rw [testBit_lessN (allN_lt _), Nat.zero_testBit]
  unfold allN
  rw [testBit_setOf, testBit_setOf, decide_eq_true hp, Bool.true_and, Bool.true_and]
  by_cases h1 : p < 2 ^ k
  · rw [decide_eq_true (show p < 2 ^ n by omega)]; simp
  · rw [decide_eq_false h1]; rfl
theorem all_without {k n : Nat} (hk : k ≤ 8) (h : n < k) : lessN (allN k) (allN n) ≠ 0 := fun he => by
  have h1 := less_all (allN_lt k) he (2 ^ n) (by
    have h2 := pow_le_256 hk
    have h3 : 2 ^ n < 2 ^ k := Nat.pow_lt_pow_right (by decide) h
    unfold allN
    rw [testBit_setOf, decide_eq_true (show 2 ^ n < 256 by omega), decide_eq_true h3]; rfl)
  omega
theorem ent206 : enters Try.prog 206 = true := by kernel_rfl
theorem c206_nil (m : Int) (w : World) : Fun Try.prog 206 [.pointer none, .int .i64 m] w fun x w' => x = .bool false ∧ Same w w' := by
  refine fun_of_W (N := 31) Try.func206 ent206 rfl rfl rfl (by simp) ?_
  have H := Hp.start0 w
  refine cut_rule (γ := Unit) _ rfl (fun _ => []) (fun _ w' => Hp w (fun _ => False) w' [] []) ⟨(), trivial, H⟩ ?_
  clear H
  rintro ⟨⟩ u w0 H
  replace H : Hp _ _ _ _ _ := H
  refine cut_rule (γ := Nat × Nat × Int) _ rfl (fun (g, s, e) => [(5, .pointer (some ⟨g, 0, none⟩)), (6, .int .i64 e)]) (fun (g, s, e) w' => Hp w (fun _ => False) w' [blk g 24 (sc s)] []) ?_ ?_
  · by_cases hm : m < 0 ∨ 8 < m
    · refine call_fn (c37_no m hm _) ?_
      rintro _ w1 ⟨rfl, hk⟩
      replace H := H.same hk
      clear hk
      refine H.alloc 24 (cs := sc 0) zero24 sc_zero ?_
      clear H
      intro g10 w4 H
      refine H.storeSet 0 rfl ?_
      clear H
      intro w5 H
      exact ⟨(g10, 0, 1), ⟨rfl, rfl, trivial⟩, H⟩
    · obtain ⟨k, rfl⟩ : ∃ k : Nat, m = k := ⟨m.toNat, by omega⟩
      refine call_fn (c37_yes k (by omega) _) ?_
      rintro _ w1 ⟨rfl, hk⟩
      replace H := H.same hk
      clear hk
      refine H.alloc 24 (cs := sc 0) zero24 sc_zero ?_
      clear H
      intro g10 w4 H
      refine H.storeSet 0 rfl ?_
      clear H
      intro w5 H
      exact ⟨(g10, allN k, 0), ⟨rfl, rfl, trivial⟩, H⟩
  clear H
  rintro ⟨g, s, e⟩ u w1 H
  replace H : Hp _ _ _ _ _ := H
  refine bin_eql123z ?_
  iterate 4 refine cond_yes rfl ?_
  exact ⟨rfl, H.keeps⟩
/-- All nodes that there are F needs. -/
def OnlyN (A : Ar) (F : Dk.Fn) : Prop := ∀ i d, slot A i = some d → Needed A F i d
theorem OnlyN.made {n : Nat} {room : Int} {A A' : Ar} {F : Dk.Fn} {id e : Int} (h : OnlyN A F) (hA : BInv n A) (hm : Made n room A A' F id e) : OnlyN A' F := fun i d hs => by
  cases h0 : slot A i with
  | none => exact hm.need i d hs h0
  | some d0 =>
    have : d0 = d := by have := hm.ext i d0 h0; rw [hs] at this; injection this with this; exact this.symm
    subst this
    exact (h i d0 h0).ext hA.inv hm.inv.inv hm.ext h0
theorem OnlyN.few {n : Nat} {A : Ar} {F : Dk.Fn} (h : OnlyN A F) (hA : BInv n A) (hF : Low n F) (hn : n ≤ 8) : liveA A ≤ 255 := by
  have h1 := needed_few hA (low_hangs hF) (P := (List.range A.length).filter fun i => (slot A i).isSome) (List.nodup_range.sublist List.filter_sublist) fun i hi => by
    obtain ⟨d, hd⟩ := Option.isSome_iff_exists.1 (List.mem_filter.1 hi).2
    exact ⟨d, hd, h i d hd⟩
  rw [← live_range A A.length (Nat.le_refl _), List.length_range] at h1
  have := pow_le_256 hn
  omega
theorem made_none {n : Nat} {room : Int} {A A' : Ar} {F : Dk.Fn} {id e : Int} (hm : Made n room A A' F id e) (hF : Hangs [] F) : Ext A' A := fun i d hs => by
  have h1 := needed_few hm.inv hF (newP_nodup A A') fun i hi => by
    obtain ⟨⟨d, h1⟩, h2⟩ := mem_newP.1 hi
    exact ⟨d, h1, hm.need i d h1 h2⟩
  cases h0 : slot A i with
  | none =>
    have := List.length_pos_of_mem (mem_newP.2 ⟨⟨d, hs⟩, h0⟩)
    simp at h1
    rw [h1] at this
    simp at this
  | some d0 =>
    have := hm.ext i d0 h0
    rw [hs] at this
    exact this.symm
theorem c206 {o : List Nat} (ho : OrdO o) (hn : o.length ≤ 8) {g ga r co : Nat} {B : Option Addr} {A : Ar} {sv0 : Value} (m : Int) (w : World) (hA : BInv o.length A) (hok : ArOk 20000 A)
    {q : Nat} (hq : liveA A ≤ q) (hr : q + 256 ≤ 20000) (hbd : BdAt w g ga r co B o sv0 20000 A) :
    Fun Try.prog 206 [.pointer (some ⟨g, 0, none⟩), .int .i64 m] w fun x w' => ∃ A' sv', x = .bool (decide (m = o.length)) ∧
      (ArOk 20000 A' ∧ BInv o.length A' ∧ Ext A A' ∧ liveA A' ≤ q + (if m = o.length then 0 else 255) ∧ (m = o.length → Ext A' A) ∧ (OnlyN A (FnS o (allN m.toNat)) → OnlyN A' (FnS o (allN m.toNat))) ∧ (freeA A = A.length → freeA A' = A'.length)) ∧ Turn w w' (arR ga r sv0 20000 A) (arR ga r sv' 20000 A') := by
  refine fun_of_W (N := 31) Try.func206 ent206 rfl rfl rfl (by simp) ?_
  have H := hbd.start
  refine cut_rule (γ := Unit) _ rfl (fun _ => []) (fun _ w' => Hp w (arR ga r sv0 20000 A).foot w' [arR ga r sv0 20000 A] (bdM g ga co B o)) ⟨(), trivial, H⟩ ?_
  clear H
  rintro ⟨⟩ u w0 H
  replace H : Hp _ _ _ _ _ := H
  by_cases hm : m < 0 ∨ 8 < m
  · rw [decide_eq_false (show ¬ m = o.length by omega)]
    refine cut_rule (γ := Nat) _ rfl (fun g => [(5, .pointer (some ⟨g, 0, none⟩)), (6, .int .i64 1)]) (fun g5 w' => Hp w (arR ga r sv0 20000 A).foot w' [arR ga r sv0 20000 A, blk g5 24 (sc 0)] (bdM g ga co B o)) ?_ ?_
    · refine call_fn (c37_no m hm _) ?_
      rintro _ w1 ⟨rfl, hk⟩
      replace H := H.same hk
      clear hk
      refine H.alloc 24 (cs := sc 0) zero24 sc_zero ?_
      clear H
      intro g10 w4 H
      refine H.storeSet 0 rfl ?_
      clear H
      intro w5 H
      exact ⟨g10, ⟨rfl, rfl, trivial⟩, H.front 1 rfl⟩
    clear H
    rintro g5 u w1 H
    replace H : Hp _ _ _ _ _ := H
    refine bin_eql123 ?_
    iterate 3 refine cond_no rfl ?_
    refine cond_yes rfl ?_
    exact ⟨A, sv0, rfl, ⟨hok, hA, Ext.refl _, by split <;> omega, fun _ => Ext.refl _, fun h => h, fun h => h⟩, H.outTurn⟩
  obtain ⟨k, rfl⟩ : ∃ k : Nat, m = k := ⟨m.toNat, by omega⟩
  refine cut_rule (γ := Nat) _ rfl (fun g => [(5, .pointer (some ⟨g, 0, none⟩)), (6, .int .i64 0)]) (fun g5 w' => Hp w (arR ga r sv0 20000 A).foot w' [arR ga r sv0 20000 A, blk g5 24 (sc (allN k))] (bdM g ga co B o)) ?_ ?_
  · refine call_fn (c37_yes k (by omega) _) ?_
    rintro _ w1 ⟨rfl, hk⟩
    replace H := H.same hk
    clear hk
    refine H.alloc 24 (cs := sc 0) zero24 sc_zero ?_
    clear H
    intro g10 w4 H
    refine H.storeSet 0 rfl ?_
    clear H
    intro w5 H
    exact ⟨g10, ⟨rfl, rfl, trivial⟩, H.front 1 rfl⟩
  clear H
  rintro g5 u w1 H
  replace H : Hp _ _ _ _ _ := H
  refine cut_rule (γ := Unit) _ rfl (fun _ => []) (fun _ w' => Hp w (arR ga r sv0 20000 A).foot w' [arR ga r sv0 20000 A, blk g5 24 (sc (allN k))] (bdM g ga co B o)) ?_ ?_
  · refine bin_eql123 ?_
    iterate 4 refine cond_no rfl ?_
    exact ⟨(), trivial, H⟩
  clear H
  rintro ⟨⟩ u w2 H
  replace H : Hp _ _ _ _ _ := H
  have h256 := pow_le_256 hn
  refine cut_rule (γ := Int × Int × Value × Ar) _ rfl (fun (x, e, _) => [(7, .int .i64 x), (6, .int .i64 e)]) (fun (x, e, sv1, A1) w' => (ArOk 20000 A1 ∧ BInv o.length A1 ∧ Ext A A1 ∧ liveA A1 ≤ q + (if (k : Int) = o.length then 0 else 255) ∧ ((e = 0 ∧ x = 1) ↔ (k : Int) = o.length) ∧ ((k : Int) = o.length → Ext A1 A) ∧ (OnlyN A (FnS o (allN k)) → OnlyN A1 (FnS o (allN k))) ∧ (freeA A = A.length → freeA A1 = A1.length)) ∧ Hp w (arR ga r sv0 20000 A).foot w' [arR ga r sv1 20000 A1, blk g5 24 (sc (allN k))] (bdM g ga co B o)) ?_ ?_
  · refine H.loadAll 1 rfl agg24 size24 ?_
    refine call_fn (c108 ho hn (allN_lt k) _ hA hok (H.bdAt 0 rfl fun s hs => hs)) ?_
    rintro _ w3 ⟨A1, sv1, id, e, rfl, hm, hok1, ht⟩
    refine ⟨(id, e, sv1, A1), ⟨rfl, rfl, trivial⟩, ?_, H.turnBy 0 rfl ht⟩
    rcases hm with ⟨h1, rfl, rfl, rfl⟩ | ⟨h1, hm⟩
    · have hk : ¬ k ≤ o.length := fun h => h1 (all_within h)
      exact ⟨hok1, hA, Ext.refl _, by split <;> omega, ⟨fun h => by omega, fun h => by omega⟩, fun _ => Ext.refl _, fun h => h, fun h => h⟩
    · have hk : k ≤ o.length := Nat.le_of_not_lt fun h => all_without (by omega) h h1
      by_cases hkn : k = o.length
      · subst hkn
        have hF : FnS o (allN o.length) = fun _ => true := by funext a; rw [all_fn ho, decide_eq_true (ptA_lt o a)]
        have hon : OnlyN A (FnS o (allN o.length)) → OnlyN A1 (FnS o (allN o.length)) := fun h => h.made hA hm
        rw [hF] at hm
        have hback := made_none hm (fun _ _ _ => rfl)
        obtain ⟨rfl, h2, h3⟩ := made_D hm (D := []) (fun _ _ _ => rfl) hq (by simp; omega)
        have : id = 1 := rep_canon hm.inv h2 rep_one
        exact ⟨hok1, hm.inv, hm.ext, by rw [if_pos rfl]; simpa using h3, ⟨fun _ => rfl, fun _ => ⟨rfl, this⟩⟩, fun _ => hback, hon, hm.full⟩
      · have hon : OnlyN A (FnS o (allN k)) → OnlyN A1 (FnS o (allN k)) := fun h => h.made hA hm
        have hfull := hm.full
        obtain ⟨rfl, h2, h3⟩ := made_small hm (FnS_low ho _) hn hq (by omega)
        refine ⟨hok1, hm.inv, hm.ext, by rw [if_neg (by omega)]; exact h3, ⟨fun h => ?_, fun h => by omega⟩, fun h => by omega, hon, hfull⟩
        have h4 := h2.says (asgP o (2 ^ k))
        have h5 : 2 ^ k < 2 ^ o.length := Nat.pow_lt_pow_right (by decide) (by omega)
        rw [h.2, sem_none (nd_end (.inr rfl)), all_fn ho, pt_asg ho h5] at h4
        simp at h4
  clear H
  rintro ⟨x, e, sv1, A1⟩ u w3 ⟨⟨hok1, hA1, hx1, hl1, hiff, hrest⟩, H⟩
  replace H : Hp _ _ _ _ _ := H
  by_cases hkn : (k : Int) = o.length
  · obtain ⟨rfl, rfl⟩ := hiff.2 hkn
    rw [decide_eq_true hkn]
    iterate 3 refine cond_yes rfl ?_
    exact ⟨A1, sv1, rfl, ⟨hok1, hA1, hx1, hl1, hrest⟩, H.outTurn⟩
  · rw [decide_eq_false hkn]
    by_cases he : e = 0
    · have hx : x ≠ 1 := fun h => hkn (hiff.1 ⟨he, h⟩)
      iterate 3 refine cond_yes (beq_iff_eq.2 (by assumption)) ?_
      exact ⟨A1, sv1, congrArg Value.bool (beq_eq_false_iff_ne.2 hx), ⟨hok1, hA1, hx1, hl1, hrest⟩, H.outTurn⟩
    · iterate 3 refine cond_no (beq_eq_false_iff_ne.2 (by assumption)) ?_
      exact ⟨A1, sv1, rfl, ⟨hok1, hA1, hx1, hl1, hrest⟩, H.outTurn⟩
end Go.Proofs.Ytjebpngdinbckaa
end

section
/- Diagrams composed: Within, Hangs, Put. -/
namespace Go.Proofs.Ytjebpngdinbckaa
open Go.Dk
attribute [local irreducible] IntKind.wrap

theorem ent153 : enters Try.prog 153 = true := by kernel_rfl
/-- Within, of ids that are there or not. -/
theorem c153 {o : List Nat} (ho : OrdO o) (hn : o.length ≤ 8) {g ga r co : Nat} {B : Option Addr} {A : Ar} {sv0 : Value} (f p : Int) (hf : f < 9223372036854775808) (hp : p < 9223372036854775808) (w : World) (hA : BInv o.length A) (hok : ArOk 20000 A)
    {q : Nat} (hq : liveA A ≤ q) (hr : q + 512 ≤ 20000) (hbd : BdAt w g ga r co B o sv0 20000 A) :
    Fun Try.prog 153 [.pointer (some ⟨g, 0, none⟩), .int .i64 (o.length : Int), .int .i64 f, .int .i64 p] w fun x w' => ∃ A' sv' b e, x = .tuple #[.bool b, .int .i64 e] ∧
      (ArOk 20000 A' ∧ BInv o.length A' ∧ Ext A A' ∧ liveA A' ≤ q + 255 ∧
        ((¬ (0 ≤ lvlA A f ∧ 0 ≤ lvlA A p) ∧ e = 1) ∨ ((0 ≤ lvlA A f ∧ 0 ≤ lvlA A p) ∧ e = 0 ∧ (b = true ↔ ∀ a, sem A f a = true → sem A p a = true)))) ∧ Turn w w' (arR ga r sv0 20000 A) (arR ga r sv' 20000 A') := by
  refine fun_of_W (N := 31) Try.func153 ent153 rfl rfl rfl (by simp) ?_
  have H := hbd.start
  refine cut_rule (γ := Unit) _ rfl (fun _ => []) (fun _ w' => Hp w (arR ga r sv0 20000 A).foot w' [arR ga r sv0 20000 A] (bdM g ga co B o)) ⟨(), trivial, H⟩ ?_
  clear H
  rintro ⟨⟩ u w0 H
  replace H : Hp _ _ _ _ _ := H
  refine cut_rule (γ := Value × Ar) _ rfl (fun _ => []) (fun (sv1, A1) w' => (ArOk 20000 A1 ∧ BInv o.length A1 ∧ Ext A A1 ∧ liveA A1 ≤ q ∧ Ext A1 A) ∧ Hp w (arR ga r sv0 20000 A).foot w' [arR ga r sv1 20000 A1] (bdM g ga co B o)) ?_ ?_
  · refine call_fn (c206 ho hn (o.length : Int) _ hA hok hq (by omega) (H.bdAt 0 rfl fun s hs => hs)) ?_
    rintro _ w1 ⟨A1, sv1, rfl, ⟨h1, h2, h3, h4, h5, _⟩, ht⟩
    rw [decide_eq_true rfl]
    rw [if_pos rfl] at h4
    refine cond_no rfl ?_
    exact ⟨(sv1, A1), trivial, ⟨h1, h2, h3, h4, h5 rfl⟩, H.turnBy 0 rfl ht⟩
  clear H
  rintro ⟨sv1, A1⟩ u w1 ⟨⟨hok1, hA1, hx1, hl1, hback⟩, H⟩
  replace H : Hp _ _ _ _ _ := H
  by_cases ht0 : 0 ≤ lvlA A f ∧ 0 ≤ lvlA A p
  · have tf : 0 ≤ lvlA A1 f := by rw [hx1.lvl ht0.1]; exact ht0.1
    have tp : 0 ≤ lvlA A1 p := by rw [hx1.lvl ht0.2]; exact ht0.2
    refine cut_rule (γ := Int × Value × Ar) _ rfl (fun (x, _) => [(10, .int .i64 x), (11, .int .i64 0)]) (fun (x, sv2, A2) w' => (ArOk 20000 A2 ∧ BInv o.length A2 ∧ Ext A A2 ∧ liveA A2 ≤ q + 255 ∧ (x = f ↔ ∀ a, sem A f a = true → sem A p a = true)) ∧ Hp w (arR ga r sv0 20000 A).foot w' [arR ga r sv2 20000 A2] (bdM g ga co B o)) ?_ ?_
    · refine call_fn (c114 hn f p hf hp _ hA1 hok1 (H.bdAt 0 rfl fun s hs => hs)) ?_
      rintro _ w3 ⟨A2, sv2, y, e, rfl, hm, hok2, ht⟩
      have hm := hm.made tf tp (end_there _)
      rw [ite_and (rep_self tf) (rep_self tp)] at hm
      obtain ⟨rfl, h2, h3⟩ := made_small hm (fun a b hab => by rw [sem_low hA1 f a b hab, sem_low hA1 p a b hab]) hn hl1 (by omega)
      refine ⟨(y, sv2, A2), ⟨rfl, rfl, trivial⟩, ⟨hok2, hm.inv, hx1.trans hm.ext, h3, ?_⟩, H.turnBy 0 rfl ht⟩
      rw [rep_eq hm.inv h2 ((rep_self tf).ext hA1.inv hm.inv.inv hm.ext)]
      refine forall_congr' fun a => ?_
      rw [hx1.sem hA.inv hA1.inv a f ht0.1, hx1.sem hA.inv hA1.inv a p ht0.2]
      cases sem A f a <;> cases sem A p a <;> simp
    clear H
    rintro ⟨x, sv2, A2⟩ u w2 ⟨⟨hok2, hA2, hx2, hl2, hiff⟩, H⟩
    replace H : Hp _ _ _ _ _ := H
    refine cond_yes rfl ?_
    refine cond_yes rfl ?_
    iterate 2 refine cond_yes rfl ?_
    exact ⟨A2, sv2, x == f, 0, rfl, ⟨hok2, hA2, hx2, hl2, .inr ⟨ht0, rfl, by rw [beq_iff_eq]; exact hiff⟩⟩, H.outTurn⟩
  · refine call_fn (c114 hn f p hf hp _ hA1 hok1 (H.bdAt 0 rfl fun s hs => hs)) ?_
    rintro _ w3 ⟨A2, sv2, y, e, rfl, (⟨hno, rfl, rfl, rfl⟩ | ⟨h, _⟩), hok2, ht⟩
    · replace H := H.turnBy 0 rfl ht
      iterate 4 refine cond_no rfl ?_
      exact ⟨A2, sv2, false, 1, rfl, ⟨hok2, hA1, hx1, by omega, .inl ⟨ht0, rfl⟩⟩, H.outTurn⟩
    · exfalso
      refine ht0 ⟨?_, ?_⟩
      · rw [hback.lvl h.1]; exact h.1
      · rw [hback.lvl h.2.1]; exact h.2.1
theorem indep_half {F : Dk.Fn} {lev : Nat} : (∀ a, halfF F lev false a = halfF F lev true a) ↔ Indep F lev := by
  constructor
  · intro h a b
    have h1 := h a
    unfold halfF at h1
    have h2 := upA_self a lev
    cases ha : a lev <;> rw [ha] at h2 <;> cases b
    · rw [h2]
    · rw [← h1, h2]
    · rw [h1, h2]
    · rw [h2]
  · intro h a
    unfold halfF
    rw [h, h]
theorem range_idx {o : List Nat} (ho : OrdO o) {i : Nat} (hi : i < o.length) : o.idxOf i ∈ List.range o.length := List.mem_range.2 (ho.idx_lt hi)
theorem sem_hangs {n : Nat} {A : Ar} (h : BInv n A) (f : Int) : Hangs (List.range n) (sem A f) := low_hangs (sem_low h f)
theorem two_pow_len {n : Nat} (hn : n ≤ 8) : 2 * 2 ^ (List.range n).length ≤ 512 := by
  rw [List.length_range]; have := pow_le_256 hn; omega
theorem ent150 : enters Try.prog 150 = true := by kernel_rfl
theorem c150 {o : List Nat} (ho : OrdO o) (hn : o.length ≤ 8) {g ga r co : Nat} {B : Option Addr} {A : Ar} {sv0 : Value} (f : Int) (tf : 0 ≤ lvlA A f) (w : World) (hA : BInv o.length A) (hok : ArOk 20000 A)
    {q : Nat} (hq : liveA A ≤ q) (hr : q + 8192 ≤ 20000) (hbd : BdAt w g ga r co B o sv0 20000 A) :
    Fun Try.prog 150 [.pointer (some ⟨g, 0, none⟩), .int .i64 (o.length : Int), .int .i64 f] w fun x w' => ∃ A' sv', ∃ h : Nat, x = .tuple #[.int .u8 (h : Int), .int .i64 0] ∧
      (ArOk 20000 A' ∧ BInv o.length A' ∧ Ext A A' ∧ liveA A' ≤ q + 8192 ∧ h < 256 ∧ ∀ j, h.testBit j = true ↔ j < o.length ∧ ¬ Indep (sem A f) (o.idxOf j)) ∧ Turn w w' (arR ga r sv0 20000 A) (arR ga r sv' 20000 A') := by
  refine fun_of_W (N := 63) Try.func150 ent150 rfl rfl rfl (by simp) ?_
  have H := hbd.start
  refine cut_rule (γ := Unit) _ rfl (fun _ => []) (fun _ w' => Hp w (arR ga r sv0 20000 A).foot w' [arR ga r sv0 20000 A] (bdM g ga co B o)) ⟨(), trivial, H⟩ ?_
  clear H
  rintro ⟨⟩ u w0 H
  replace H : Hp _ _ _ _ _ := H
  have bf := id_lt hok tf
  refine cut_rule (γ := Value × Ar) _ rfl (fun _ => []) (fun (sv1, A1) w' => (ArOk 20000 A1 ∧ BInv o.length A1 ∧ Ext A A1 ∧ liveA A1 ≤ q) ∧ Hp w (arR ga r sv0 20000 A).foot w' [arR ga r sv1 20000 A1] (bdM g ga co B o)) ?_ ?_
  · refine call_fn (c206 ho hn (o.length : Int) _ hA hok hq (by omega) (H.bdAt 0 rfl fun s hs => hs)) ?_
    rintro _ w1 ⟨A1, sv1, rfl, ⟨h1, h2, h3, h4, _⟩, ht⟩
    rw [decide_eq_true rfl]
    rw [if_pos rfl] at h4
    refine cond_no rfl ?_
    exact ⟨(sv1, A1), trivial, ⟨h1, h2, h3, h4⟩, H.turnBy 0 rfl ht⟩
  clear H
  rintro ⟨sv1, A1⟩ u w1 ⟨⟨hok1, hA1, hx1, hl1⟩, H⟩
  replace H : Hp _ _ _ _ _ := H
  have tf1 : 0 ≤ lvlA A1 f := by rw [hx1.lvl tf]; exact tf
  refine cut_rule (γ := Unit) _ rfl (fun _ => []) (fun _ w' => Hp w (arR ga r sv0 20000 A).foot w' [arR ga r sv1 20000 A1] (bdM g ga co B o)) ?_ ?_
  · have hc := c110b ho f (by omega) _ hA1 hok1 (H.bdAt 0 rfl fun s hs => hs)
    rw [if_pos tf1] at hc
    refine call_fn hc ?_
    rintro _ w2 ⟨rfl, hk⟩
    replace H := H.same hk
    clear hk
    refine H.alloc 24 (cs := sc 0) zero24 sc_zero ?_
    clear H
    intro g10 w4 H
    refine H.storeSet 0 rfl ?_
    clear H
    intro w5 H
    refine cond_no (bne_self_eq_false _) ?_
    exact ⟨(), trivial, H.forget⟩
  clear H
  rintro ⟨⟩ u w2 H
  replace H : Hp _ _ _ _ _ := H
  refine cut_rule (γ := Unit) _ rfl (fun _ => [(10, .int .u8 0)]) (fun _ w' => Hp w (arR ga r sv0 20000 A).foot w' [arR ga r sv1 20000 A1] (bdM g ga co B o)) ⟨(), ⟨rfl, trivial⟩, H⟩ ?_
  clear H
  rintro ⟨⟩ u w3 H
  replace H : Hp _ _ _ _ _ := H
  have hF := sem_hangs hA f
  have h512 := two_pow_len hn
  refine cut_rule (γ := Nat × Value × Ar) _ rfl (fun (h, _) => [(10, .int .u8 (h : Int))]) (fun (h, sv2, A2) w' => (ArOk 20000 A2 ∧ BInv o.length A2 ∧ Ext A A2 ∧ liveA A2 ≤ q + 8192 ∧ h < 256 ∧ ∀ j, h.testBit j = true ↔ j < o.length ∧ ¬ Indep (sem A f) (o.idxOf j)) ∧ Hp w (arR ga r sv0 20000 A).foot w' [arR ga r sv2 20000 A2] (bdM g ga co B o)) ?_ ?_
  · refine loop_rule (γ := Nat × Nat × Value × Ar) _ rfl (fun (i, h, _) => [(29, .int .i64 (i : Int)), (10, .int .u8 (h : Int))])
      (fun (i, h, sv2, A2) w' => (i ≤ o.length ∧ ArOk 20000 A2 ∧ BInv o.length A2 ∧ Ext A A2 ∧ liveA A2 ≤ q + 1024 * i ∧ h < 256 ∧ ∀ j, h.testBit j = true ↔ j < i ∧ ¬ Indep (sem A f) (o.idxOf j)) ∧ Hp w (arR ga r sv0 20000 A).foot w' [arR ga r sv2 20000 A2] (bdM g ga co B o))
      (fun (i, _) => o.length - i) (0, 0, sv1, A1) ⟨rfl, rfl, trivial⟩ ⟨⟨Nat.zero_le _, hok1, hA1, hx1, by omega, by decide, fun j => by simp⟩, H⟩ ?_
    clear H hok1 hA1 hx1 hl1 tf1
    rintro ⟨i, h, sv2, A2⟩ u w4 ⟨⟨hi, hok2, hA2, hx2, hl2, hh, hbits⟩, H⟩
    replace H : Hp _ _ _ _ _ := H
    refine cond_dec (fun h7 => ?_) (fun h7 => ?_)
    · have hin : i < o.length := by omega
      have rf2 := (rep_self tf).ext hA.inv hA2.inv hx2
      refine cut_rule (γ := Nat × Value × Ar) _ rfl (fun (h, _) => [(10, .int .u8 (h : Int))]) (fun (h, sv3, A3) w' => (ArOk 20000 A3 ∧ BInv o.length A3 ∧ Ext A A3 ∧ liveA A3 ≤ q + 1024 * (i + 1) ∧ h < 256 ∧ ∀ j, h.testBit j = true ↔ j < i + 1 ∧ ¬ Indep (sem A f) (o.idxOf j)) ∧ Hp w (arR ga r sv0 20000 A).foot w' [arR ga r sv3 20000 A3] (bdM g ga co B o)) ?_ ?_
      · refine cut_rule (γ := Unit) _ rfl (fun _ => [(11, .int .i64 (i : Int))]) (fun _ w' => Hp w (arR ga r sv0 20000 A).foot w' [arR ga r sv2 20000 A2] (bdM g ga co B o)) ⟨(), ⟨rfl, trivial⟩, H⟩ ?_
        clear H
        rintro ⟨⟩ u w5 H
        replace H : Hp _ _ _ _ _ := H
        refine cut_rule (γ := Int × Value × Ar) _ rfl (fun (x, _) => [(12, .int .i64 x), (13, .int .i64 0)]) (fun (x, sv3, A3) w' => (ArOk 20000 A3 ∧ BInv o.length A3 ∧ Ext A A3 ∧ liveA A3 ≤ q + 1024 * i + 512 ∧ Rep A3 x (halfF (sem A f) (o.idxOf i) false)) ∧ Hp w (arR ga r sv0 20000 A).foot w' [arR ga r sv3 20000 A3] (bdM g ga co B o)) ?_ ?_
        · refine call_fn (c208 ho hn f i false hin rf2 hF (range_idx ho hin) _ hA2 hok2 hl2 (by omega) (H.bdAt 0 rfl fun s hs => hs)) ?_
          rintro _ w6 ⟨A3, sv3, x, rfl, ⟨h1, h2, h3, h4, h5⟩, ht⟩
          exact ⟨(x, sv3, A3), ⟨rfl, rfl, trivial⟩, ⟨h1, h2, hx2.trans h3, by omega, h5⟩, H.turnBy 0 rfl ht⟩
        clear H
        rintro ⟨lo, sv3, A3⟩ u w6 ⟨⟨hok3, hA3, hx3, hl3, rlo⟩, H⟩
        replace H : Hp _ _ _ _ _ := H
        refine cut_rule (γ := Unit) _ rfl (fun _ => []) (fun _ w' => Hp w (arR ga r sv0 20000 A).foot w' [arR ga r sv3 20000 A3] (bdM g ga co B o)) ?_ ?_
        · refine cond_no (bne_self_eq_false _) ?_
          exact ⟨(), trivial, H⟩
        clear H
        rintro ⟨⟩ u w7 H
        replace H : Hp _ _ _ _ _ := H
        have rf3 := (rep_self tf).ext hA.inv hA3.inv hx3
        refine cut_rule (γ := Int × Value × Ar) _ rfl (fun (x, _) => [(14, .int .i64 x), (13, .int .i64 0)]) (fun (x, sv4, A4) w' => (ArOk 20000 A4 ∧ BInv o.length A4 ∧ Ext A A4 ∧ liveA A4 ≤ q + 1024 * (i + 1) ∧ Rep A4 lo (halfF (sem A f) (o.idxOf i) false) ∧ Rep A4 x (halfF (sem A f) (o.idxOf i) true)) ∧ Hp w (arR ga r sv0 20000 A).foot w' [arR ga r sv4 20000 A4] (bdM g ga co B o)) ?_ ?_
        · refine call_fn (c208 ho hn f i true hin rf3 hF (range_idx ho hin) _ hA3 hok3 hl3 (by omega) (H.bdAt 0 rfl fun s hs => hs)) ?_
          rintro _ w8 ⟨A4, sv4, x, rfl, ⟨h1, h2, h3, h4, h5⟩, ht⟩
          exact ⟨(x, sv4, A4), ⟨rfl, rfl, trivial⟩, ⟨h1, h2, hx3.trans h3, by omega, rlo.ext hA3.inv h2.inv h3, h5⟩, H.turnBy 0 rfl ht⟩
        clear H
        rintro ⟨hi', sv4, A4⟩ u w8 ⟨⟨hok4, hA4, hx4, hl4, rlo4, rhi4⟩, H⟩
        replace H : Hp _ _ _ _ _ := H
        refine cut_rule (γ := Unit) _ rfl (fun _ => []) (fun _ w' => Hp w (arR ga r sv0 20000 A).foot w' [arR ga r sv4 20000 A4] (bdM g ga co B o)) ?_ ?_
        · refine cond_no (bne_self_eq_false _) ?_
          exact ⟨(), trivial, H⟩
        clear H
        rintro ⟨⟩ u w9 H
        replace H : Hp _ _ _ _ _ := H
        have hiff := (rep_eq hA4 rlo4 rhi4).trans indep_half
        refine cond_bne (fun hne => ?_) (fun he => ?_)
        · have hor := or_lt8 hh (show 2 ^ i < 256 by have h1 : 2 ^ i < 2 ^ 8 := Nat.pow_lt_pow_right (by decide) (by omega); omega)
          refine bin_one_shl_u8 (by omega) ?_
          refine bin_or_u8 hh (by have h1 : 2 ^ i < 2 ^ 8 := Nat.pow_lt_pow_right (by decide) (by omega); omega) ?_
          refine ⟨(h ||| 2 ^ i, sv4, A4), ⟨rfl, trivial⟩, ⟨hok4, hA4, hx4, hl4, hor, fun j => ?_⟩, H⟩
          rw [Nat.testBit_or, Nat.testBit_two_pow, Bool.or_eq_true, hbits, decide_eq_true_eq]
          constructor
          · rintro (⟨h1, h2⟩ | rfl)
            · exact ⟨by omega, h2⟩
            · exact ⟨by omega, fun h => hne (hiff.2 h)⟩
          · rintro ⟨h1, h2⟩
            rcases Nat.lt_succ_iff_lt_or_eq.1 h1 with h3 | h3
            · exact .inl ⟨h3, h2⟩
            · exact .inr h3.symm
        · refine ⟨(h, sv4, A4), ⟨rfl, trivial⟩, ⟨hok4, hA4, hx4, hl4, hh, fun j => ?_⟩, H⟩
          rw [hbits]
          constructor
          · rintro ⟨h1, h2⟩; exact ⟨by omega, h2⟩
          · rintro ⟨h1, h2⟩
            rcases Nat.lt_succ_iff_lt_or_eq.1 h1 with h3 | h3
            · exact ⟨h3, h2⟩
            · subst h3; exact absurd (hiff.1 he) h2
      · clear H
        rintro ⟨h, sv3, A3⟩ u w5 ⟨⟨h1, h2, h3, h4, h5, h6⟩, H⟩
        exact ⟨(i + 1, h, sv3, A3), by show o.length - (i + 1) < o.length - i; omega, ⟨up (by omega), rfl, trivial⟩, ⟨by show i + 1 ≤ o.length; omega, h1, h2, h3, h4, h5, h6⟩, H⟩
    · obtain rfl : i = o.length := by omega
      exact ⟨(h, sv2, A2), ⟨rfl, trivial⟩, ⟨hok2, hA2, hx2, by omega, hh, hbits⟩, H⟩
  clear H
  rintro ⟨h, sv2, A2⟩ u w4 ⟨hfacts, H⟩
  replace H : Hp _ _ _ _ _ := H
  exact ⟨A2, sv2, h, rfl, hfacts, H.outTurn⟩
end Go.Proofs.Ytjebpngdinbckaa
end

section
/- Diagrams composed: Put. -/
namespace Go.Proofs.Ytjebpngdinbckaa
open Go.Dk
attribute [local irreducible] IntKind.wrap

def k2v (a b : Int) : Value := .agg #[.int .i64 a, .int .i64 b]
theorem build248 {a b : Int} {w : World} {kk : Value → World → Prop} (h : kk (k2v a b) w) : buildK Try.prog 248 [(0, .int .i64 a), (1, .int .i64 b)] w kk := build_by (fun w => by kernel_rfl) h
theorem idx_arr248 {a b x : Int} {i : Nat} (hi : i < 2) (hx : (#[Value.int .i64 a, .int .i64 b] : Array Value)[i]? = some (.int .i64 x)) {w : World} {kk : Value → World → Prop} (h : kk (.int .i64 x) w) : idxK Try.prog 248 (k2v a b) (.int .i64 (i : Int)) w kk := by
  unfold idxK
  refine ⟨_, w, ?_, h⟩
  simp only [k2v, Instr.index, asIntOf, pure_bind, Sem.run_bind, run_underlying Try.underlying248, Result.andThen_ok]
  rw [if_pos ⟨by omega, by omega⟩]
  simp only [Sem.run_bind, Go.Dk.run_sizeOf size3, Result.andThen_ok, Int.toNat_natCast, Nat.mul_one]
  exact run_part agg3 hx w
/-- What another number of inputs leaves. -/
def FitA (o : List Nat) (m : Int) (A A' : Ar) : Prop := ArOk 20000 A' ∧ BInv o.length A' ∧ Ext A A' ∧ (OnlyN A (FnS o (allN m.toNat)) → OnlyN A' (FnS o (allN m.toNat))) ∧ (freeA A = A.length → freeA A' = A'.length)
theorem ent147 : enters Try.prog 147 = true := by kernel_rfl
theorem c147_no {o : List Nat} (ho : OrdO o) (hn : o.length ≤ 8) {g ga r co : Nat} {B : Option Addr} {A : Ar} {sv0 : Value} (m f p : Int) (x : Int) (hm : m ≠ o.length) (w : World) (hA : BInv o.length A) (hok : ArOk 20000 A)
    {q : Nat} (hq : liveA A ≤ q) (hr : q + 256 ≤ 20000) (hbd : BdAt w g ga r co B o sv0 20000 A) :
    Fun Try.prog 147 [.pointer (some ⟨g, 0, none⟩), .int .i64 m, .int .i64 f, .int .i64 x, .int .i64 p] w fun v w' => ∃ A' sv', v = .tuple #[.int .i64 0, .int .i64 1] ∧ FitA o m A A' ∧ Turn w w' (arR ga r sv0 20000 A) (arR ga r sv' 20000 A') := by
  refine fun_of_W (N := 77) Try.func147 ent147 rfl rfl rfl (by simp) ?_
  have H := hbd.start
  refine cut_rule (γ := Unit) _ rfl (fun _ => []) (fun _ w' => Hp w (arR ga r sv0 20000 A).foot w' [arR ga r sv0 20000 A] (bdM g ga co B o)) ⟨(), trivial, H⟩ ?_
  clear H
  rintro ⟨⟩ u w0 H
  replace H : Hp _ _ _ _ _ := H
  refine call_fn (c206 ho hn m _ hA hok hq hr (H.bdAt 0 rfl fun s hs => hs)) ?_
  rintro _ w1 ⟨A1, sv1, rfl, ⟨h1, h2, h3, h4, _, h5, h6⟩, ht⟩
  replace H := H.turnBy 0 rfl ht
  rw [decide_eq_false hm]
  iterate 8 refine cond_yes rfl ?_
  exact ⟨A1, sv1, rfl, ⟨h1, h2, h3, h5, h6⟩, H.outTurn⟩
theorem c147 {o : List Nat} (ho : OrdO o) (hn : o.length ≤ 8) {g ga r co : Nat} {B : Option Addr} {A : Ar} {sv0 : Value} (f p : Int) (x : Int) (tf : 0 ≤ lvlA A f) (tp : 0 ≤ lvlA A p) (w : World) (hA : BInv o.length A) (hok : ArOk 20000 A)
    {q : Nat} (hq : liveA A ≤ q) (hr : q + 1280 ≤ 20000) (hbd : BdAt w g ga r co B o sv0 20000 A) :
    Fun Try.prog 147 [.pointer (some ⟨g, 0, none⟩), .int .i64 (o.length : Int), .int .i64 f, .int .i64 x, .int .i64 p] w fun v w' => ∃ A' sv' id e, v = .tuple #[.int .i64 id, .int .i64 e] ∧
      (ArOk 20000 A' ∧ BInv o.length A' ∧ Ext A A' ∧ liveA A' ≤ q + 1280 ∧
        ((¬ (0 ≤ x ∧ x < o.length) ∧ id = 0 ∧ e = 1) ∨ ∃ i : Nat, x = i ∧ i < o.length ∧ e = 0 ∧ Rep A' id fun a => if sem A p a then halfF (sem A f) (o.idxOf i) true a else halfF (sem A f) (o.idxOf i) false a)) ∧
      Turn w w' (arR ga r sv0 20000 A) (arR ga r sv' 20000 A') := by
  refine fun_of_W (N := 77) Try.func147 ent147 rfl rfl rfl (by simp) ?_
  have H := hbd.start
  have bf := id_lt hok tf
  have bp := id_lt hok tp
  have hF := sem_hangs hA f
  have h512 := two_pow_len hn
  refine cut_rule (γ := Unit) _ rfl (fun _ => []) (fun _ w' => Hp w (arR ga r sv0 20000 A).foot w' [arR ga r sv0 20000 A] (bdM g ga co B o)) ⟨(), trivial, H⟩ ?_
  clear H
  rintro ⟨⟩ u w0 H
  replace H : Hp _ _ _ _ _ := H
  refine cut_rule (γ := Value × Ar) _ rfl (fun _ => []) (fun (sv1, A1) w' => ((0 ≤ x ∧ x < o.length) ∧ ArOk 20000 A1 ∧ BInv o.length A1 ∧ Ext A A1 ∧ liveA A1 ≤ q) ∧ Hp w (arR ga r sv0 20000 A).foot w' [arR ga r sv1 20000 A1] (bdM g ga co B o)) ?_ ?_
  · refine call_fn (c206 ho hn (o.length : Int) _ hA hok hq (by omega) (H.bdAt 0 rfl fun s hs => hs)) ?_
    rintro _ w1 ⟨A1, sv1, rfl, ⟨h1, h2, h3, h4, _⟩, ht⟩
    rw [decide_eq_true rfl]
    rw [if_pos rfl] at h4
    replace H := H.turnBy 0 rfl ht
    clear ht
    by_cases h0 : x < 0
    · iterate 3 refine cond_no rfl ?_
      iterate 4 refine cond_yes (decide_eq_true (by assumption)) ?_
      refine cond_yes rfl ?_
      exact ⟨A1, sv1, 0, 1, rfl, ⟨h1, h2, h3, by omega, .inl ⟨by omega, rfl, rfl⟩⟩, H.outTurn⟩
    by_cases h9 : (o.length : Int) ≤ x
    · iterate 3 refine cond_no rfl ?_
      iterate 4 refine cond_no (decide_eq_false (by assumption)) ?_
      refine cond_yes (decide_eq_true (by assumption)) ?_
      exact ⟨A1, sv1, 0, 1, rfl, ⟨h1, h2, h3, by omega, .inl ⟨by omega, rfl, rfl⟩⟩, H.outTurn⟩
    iterate 3 refine cond_no rfl ?_
    iterate 5 refine cond_no (decide_eq_false (by assumption)) ?_
    exact ⟨(sv1, A1), trivial, ⟨by omega, h1, h2, h3, h4⟩, H⟩
  clear H
  rintro ⟨sv1, A1⟩ u w1 ⟨⟨hx, hok1, hA1, hx1, hl1⟩, H⟩
  replace H : Hp _ _ _ _ _ := H
  obtain ⟨i, rfl⟩ : ∃ i : Nat, x = i := ⟨x.toNat, by omega⟩
  have hin : i < o.length := by omega
  have tf1 : 0 ≤ lvlA A1 f := by rw [hx1.lvl tf]; exact tf
  have tp1 : 0 ≤ lvlA A1 p := by rw [hx1.lvl tp]; exact tp
  refine cut_rule (γ := Unit) _ rfl (fun _ => []) (fun _ w' => Hp w (arR ga r sv0 20000 A).foot w' [arR ga r sv1 20000 A1] (bdM g ga co B o)) ?_ ?_
  · refine build248 ?_
    refine loop_rule (γ := Nat) _ rfl (fun j => [(35, .int .i64 (j : Int))]) (fun j w' => j ≤ 2 ∧ Hp w (arR ga r sv0 20000 A).foot w' [arR ga r sv1 20000 A1] (bdM g ga co B o)) (fun j => 2 - j) 0 ⟨rfl, trivial⟩ ⟨by omega, H⟩ ?_
    clear H
    rintro j u w2 ⟨hj, H⟩
    replace H : Hp _ _ _ _ _ := H
    have hj' : j = 0 ∨ j = 1 ∨ j = 2 := by omega
    rcases hj' with rfl | rfl | rfl
    · have hc := fun w1 hb => c110b (g := g) (ga := ga) (r := r) (co := co) (B := B) (room := 20000) (sv0 := sv1) ho f (by omega) w1 hA1 hok1 hb
      rw [if_pos tf1] at hc
      refine cond_yes rfl ?_
      refine idx_arr248 (i := 0) (by omega) rfl ?_
      refine call_fn (hc _ (H.bdAt 0 rfl fun s hs => hs)) ?_
      rintro _ w5 ⟨rfl, hk5⟩
      replace H := H.same hk5
      clear hk5
      refine H.alloc 24 (cs := sc 0) zero24 sc_zero ?_
      clear H
      intro g6 w6 H
      refine H.storeSet 0 rfl ?_
      clear H
      intro w7 H
      refine cond_no rfl ?_
      exact ⟨1, by decide, ⟨up (by omega), trivial⟩, by decide, H.forget⟩
    · have hc := fun w1 hb => c110b (g := g) (ga := ga) (r := r) (co := co) (B := B) (room := 20000) (sv0 := sv1) ho p (by omega) w1 hA1 hok1 hb
      rw [if_pos tp1] at hc
      refine cond_yes rfl ?_
      refine idx_arr248 (i := 1) (by omega) rfl ?_
      refine call_fn (hc _ (H.bdAt 0 rfl fun s hs => hs)) ?_
      rintro _ w5 ⟨rfl, hk5⟩
      replace H := H.same hk5
      clear hk5
      refine H.alloc 24 (cs := sc 0) zero24 sc_zero ?_
      clear H
      intro g6 w6 H
      refine H.storeSet 0 rfl ?_
      clear H
      intro w7 H
      refine cond_no rfl ?_
      exact ⟨2, by decide, ⟨up (by omega), trivial⟩, by decide, H.forget⟩
    · refine cond_no rfl ?_
      exact ⟨(), trivial, H⟩
  clear H
  rintro ⟨⟩ u w2 H
  replace H : Hp _ _ _ _ _ := H
  have rf1 := (rep_self tf).ext hA.inv hA1.inv hx1
  refine cut_rule (γ := Int × Value × Ar) _ rfl (fun (x, _) => [(16, .int .i64 x), (17, .int .i64 0)]) (fun (x, sv3, A3) w' => (ArOk 20000 A3 ∧ BInv o.length A3 ∧ Ext A A3 ∧ liveA A3 ≤ q + 512 ∧ Rep A3 x (halfF (sem A f) (o.idxOf i) false)) ∧ Hp w (arR ga r sv0 20000 A).foot w' [arR ga r sv3 20000 A3] (bdM g ga co B o)) ?_ ?_
  · refine call_fn (c208 ho hn f i false hin rf1 hF (range_idx ho hin) _ hA1 hok1 hl1 (by omega) (H.bdAt 0 rfl fun s hs => hs)) ?_
    rintro _ w6 ⟨A3, sv3, x, rfl, ⟨h1, h2, h3, h4, h5⟩, ht⟩
    exact ⟨(x, sv3, A3), ⟨rfl, rfl, trivial⟩, ⟨h1, h2, hx1.trans h3, by omega, h5⟩, H.turnBy 0 rfl ht⟩
  clear H hok1 hA1 hx1 hl1 rf1 tf1 tp1
  rintro ⟨lo, sv3, A3⟩ u w6 ⟨⟨hok3, hA3, hx3, hl3, rlo⟩, H⟩
  replace H : Hp _ _ _ _ _ := H
  refine cut_rule (γ := Unit) _ rfl (fun _ => []) (fun _ w' => Hp w (arR ga r sv0 20000 A).foot w' [arR ga r sv3 20000 A3] (bdM g ga co B o)) ?_ ?_
  · refine cond_no (bne_self_eq_false _) ?_
    exact ⟨(), trivial, H⟩
  clear H
  rintro ⟨⟩ u w7 H
  replace H : Hp _ _ _ _ _ := H
  have rf3 := (rep_self tf).ext hA.inv hA3.inv hx3
  refine cut_rule (γ := Int × Value × Ar) _ rfl (fun (x, _) => [(18, .int .i64 x), (17, .int .i64 0)]) (fun (x, sv4, A4) w' => (ArOk 20000 A4 ∧ BInv o.length A4 ∧ Ext A A4 ∧ liveA A4 ≤ q + 1024 ∧ Rep A4 lo (halfF (sem A f) (o.idxOf i) false) ∧ Rep A4 x (halfF (sem A f) (o.idxOf i) true)) ∧ Hp w (arR ga r sv0 20000 A).foot w' [arR ga r sv4 20000 A4] (bdM g ga co B o)) ?_ ?_
  · refine call_fn (c208 ho hn f i true hin rf3 hF (range_idx ho hin) _ hA3 hok3 hl3 (by omega) (H.bdAt 0 rfl fun s hs => hs)) ?_
    rintro _ w8 ⟨A4, sv4, x, rfl, ⟨h1, h2, h3, h4, h5⟩, ht⟩
    exact ⟨(x, sv4, A4), ⟨rfl, rfl, trivial⟩, ⟨h1, h2, hx3.trans h3, by omega, rlo.ext hA3.inv h2.inv h3, h5⟩, H.turnBy 0 rfl ht⟩
  clear H
  rintro ⟨hi', sv4, A4⟩ u w8 ⟨⟨hok4, hA4, hx4, hl4, rlo4, rhi4⟩, H⟩
  replace H : Hp _ _ _ _ _ := H
  refine cut_rule (γ := Unit) _ rfl (fun _ => []) (fun _ w' => Hp w (arR ga r sv0 20000 A).foot w' [arR ga r sv4 20000 A4] (bdM g ga co B o)) ?_ ?_
  · refine cond_no (bne_self_eq_false _) ?_
    exact ⟨(), trivial, H⟩
  clear H
  rintro ⟨⟩ u w9 H
  replace H : Hp _ _ _ _ _ := H
  have rp4 := (rep_self tp).ext hA.inv hA4.inv hx4
  have b1 := id_lt hok4 rlo4.there
  have b2 := id_lt hok4 rhi4.there
  refine call_fn (c117 hn p hi' lo (by omega) (by omega) (by omega) _ hA4 hok4 (H.bdAt 0 rfl fun s hs => hs)) ?_
  rintro _ w10 ⟨A5, sv5, id, e, rfl, hm, hok5, ht⟩
  have hm := hm.made rp4.there rhi4.there rlo4.there
  obtain ⟨rfl, h2, h3⟩ := made_small hm (iteF_low hA4 _ _ _) hn hl4 (by omega)
  rw [ite3 rp4 rhi4 rlo4] at h2
  exact ⟨A5, sv5, id, 0, rfl, ⟨hok5, hm.inv, hx4.trans hm.ext, by omega, .inr ⟨i, rfl, hin, rfl, h2⟩⟩, (H.turnBy 0 rfl ht).outTurn⟩
end Go.Proofs.Ytjebpngdinbckaa
end

section
/- Diagrams composed: points counted. -/
namespace Go.Proofs.Ytjebpngdinbckaa
open Go.Dk
attribute [local irreducible] IntKind.wrap

/-- The levels of the inputs from one on. -/
def lvD (o : List Nat) (d : Nat) : List Nat := (List.range (o.length - d)).map fun j => o.idxOf (d + j)
theorem lvD_length (o : List Nat) (d : Nat) : (lvD o d).length = o.length - d := by simp [lvD]
theorem mem_lvD {o : List Nat} {d x : Nat} : x ∈ lvD o d ↔ ∃ i, d ≤ i ∧ i < o.length ∧ x = o.idxOf i := by
  unfold lvD
  rw [List.mem_map]
  constructor
  · rintro ⟨j, hj, rfl⟩
    have := List.mem_range.1 hj
    exact ⟨d + j, by omega, by omega, rfl⟩
  · rintro ⟨i, h1, h2, rfl⟩
    exact ⟨i - d, List.mem_range.2 (by omega), by rw [show d + (i - d) = i by omega]⟩
theorem lvD_half {o : List Nat} {d : Nat} {F : Dk.Fn} (h : Hangs (lvD o d) F) (v : Bool) : Hangs (lvD o (d + 1)) (halfF F (o.idxOf d) v) := fun a b hab => h _ _ fun j hj => by
  unfold upA
  by_cases he : j = o.idxOf d
  · rw [if_pos he, if_pos he]
  · rw [if_neg he, if_neg he]
    obtain ⟨i, h1, h2, rfl⟩ := mem_lvD.1 hj
    refine hab _ (mem_lvD.2 ⟨i, ?_, h2, rfl⟩)
    rcases Nat.eq_or_lt_of_le h1 with h3 | h3
    · subst h3; exact absurd rfl he
    · omega
theorem lvD_all {o : List Nat} (ho : OrdO o) {F : Dk.Fn} (h : Low o.length F) : Hangs (lvD o 0) F := fun a b hab => h a b fun j hj => hab j (mem_lvD.2 ⟨o.getD j 0, Nat.zero_le _, ho.get_lt hj, (ho.idx_get hj).symm⟩)
/-- How many points there are, of inputs from one on. -/
def cntD (o : List Nat) : Nat → Nat → Dk.Fn → Nat
  | 0, _, F => if F (fun _ => false) then 1 else 0
  | k + 1, d, F => cntD o k (d + 1) (halfF F (o.idxOf d) false) + cntD o k (d + 1) (halfF F (o.idxOf d) true)
theorem cntD_const (o : List Nat) (c : Bool) : ∀ k d, cntD o k d (fun _ => c) = if c then 2 ^ k else 0
  | 0, d => by cases c <;> rfl
  | k + 1, d => by
    have h1 : cntD o k (d + 1) (halfF (fun _ => c) (o.idxOf d) false) = if c then 2 ^ k else 0 := cntD_const o c k (d + 1)
    have h2 : cntD o k (d + 1) (halfF (fun _ => c) (o.idxOf d) true) = if c then 2 ^ k else 0 := cntD_const o c k (d + 1)
    rw [cntD, h1, h2, Nat.pow_succ]
    cases c <;> simp <;> omega
theorem cntD_le (o : List Nat) : ∀ k d (F : Dk.Fn), cntD o k d F ≤ 2 ^ k
  | 0, d, F => by unfold cntD; split <;> simp
  | k + 1, d, F => by
    have h1 := cntD_le o k (d + 1) (halfF F (o.idxOf d) false)
    have h2 := cntD_le o k (d + 1) (halfF F (o.idxOf d) true)
    rw [cntD, Nat.pow_succ]; omega
/-- The levels turned as a number's bits say. -/
def putB (o : List Nat) : Nat → Nat → Nat → Asg → Asg
  | 0, _, _, a => a
  | k + 1, d, x, a => upA (putB o k (d + 1) (x / 2) a) (o.idxOf d) (x.testBit 0)
theorem countP_double (P : Nat → Bool) : ∀ m, (List.range (2 * m)).countP P = (List.range m).countP (fun x => P (2 * x)) + (List.range m).countP (fun x => P (2 * x + 1))
  | 0 => rfl
  | m + 1 => by
    rw [show 2 * (m + 1) = 2 * m + 1 + 1 by omega, List.range_succ, List.range_succ, List.range_succ, List.countP_append, List.countP_append, List.countP_append, List.countP_append, countP_double P m]
    simp only [List.countP_cons, List.countP_nil]
    omega
theorem cntD_count (o : List Nat) : ∀ k d (F : Dk.Fn), cntD o k d F = (List.range (2 ^ k)).countP fun x => F (putB o k d x fun _ => false)
  | 0, d, F => by
    show (if F (fun _ => false) then 1 else 0) = List.countP _ [0]
    simp only [List.countP_cons, List.countP_nil, Nat.zero_add]
    rfl
  | k + 1, d, F => by
    rw [cntD, cntD_count o k, cntD_count o k, Nat.pow_succ, Nat.mul_comm, countP_double]
    congr 1
    · refine congrArg (fun P => List.countP P _) (funext fun x => ?_)
      show F (upA (putB o k (d + 1) x _) _ false) = F (upA (putB o k (d + 1) (2 * x / 2) _) _ ((2 * x).testBit 0))
      rw [show 2 * x / 2 = x by omega, show (2 * x).testBit 0 = false by simp]
    · refine congrArg (fun P => List.countP P _) (funext fun x => ?_)
      show F (upA (putB o k (d + 1) x _) _ true) = F (upA (putB o k (d + 1) ((2 * x + 1) / 2) _) _ ((2 * x + 1).testBit 0))
      rw [show (2 * x + 1) / 2 = x by omega, show (2 * x + 1).testBit 0 = true by simp]
theorem putB_at {o : List Nat} (ho : OrdO o) : ∀ k d x a i, d ≤ i → i < d + k → d + k ≤ o.length → putB o k d x a (o.idxOf i) = x.testBit (i - d)
  | 0, d, x, a, i, h1, h2, _ => by omega
  | k + 1, d, x, a, i, h1, h2, h3 => by
    show upA (putB o k (d + 1) (x / 2) a) (o.idxOf d) (x.testBit 0) (o.idxOf i) = _
    by_cases he : i = d
    · subst he; rw [upA_same, Nat.sub_self]
    · have hne : o.idxOf i ≠ o.idxOf d := fun h => he (by
        have e1 := ho.get_idx (show i < o.length by omega)
        have e2 := ho.get_idx (show d < o.length by omega)
        rw [h] at e1; omega)
      rw [upA_ne _ _ hne, putB_at ho k (d + 1) (x / 2) a i (by omega) (by omega) (by omega), show i - d = (i - (d + 1)) + 1 by omega, Nat.testBit_succ]
theorem cntD_all {o : List Nat} (ho : OrdO o) {F : Dk.Fn} (hF : Low o.length F) : cntD o o.length 0 F = (List.range (2 ^ o.length)).countP fun p => F (asgP o p) := by
  rw [cntD_count]
  refine congrArg (fun P => List.countP P _) (funext fun x => hF _ _ fun j hj => ?_)
  have h1 := putB_at ho o.length 0 x (fun _ => false) (o.getD j 0) (Nat.zero_le _) (by have := ho.get_lt hj; omega) (by omega)
  rw [ho.idx_get hj] at h1
  rw [h1]
  unfold asgP
  rw [decide_eq_true hj, Bool.true_and, Nat.sub_zero]
/-- How many nodes it takes at most. -/
def costD (k : Nat) : Nat := 4 * k * 2 ^ k
theorem costD_succ (k : Nat) : costD (k + 1) = 4 * 2 ^ (k + 1) + 2 * costD k := by
  unfold costD
  rw [Nat.pow_succ]
  have : 4 * (k + 1) * (2 ^ k * 2) = 4 * (2 ^ k * 2) + 2 * (4 * k * 2 ^ k) := by
    rw [Nat.mul_add, Nat.add_mul, Nat.mul_one, Nat.add_comm, Nat.mul_comm (2 ^ k) 2, ← Nat.mul_assoc (4 * k) 2, Nat.mul_comm (4 * k) 2, Nat.mul_assoc 2]
  exact this
/-- The sum so far of two numbers. -/
def sum2 (a b : Nat) : Nat → Int
  | 0 => 0
  | 1 => (a : Int)
  | _ => (a : Int) + b
/-- What count is to answer. -/
def CntC (o : List Nat) (g ga r co : Nat) (B : Option Addr) (k : Nat) : Prop := ∀ (d : Nat) (f : Int) (F : Dk.Fn) (A : Ar) (sv0 : Value) (w : World) (q : Nat), d + k = o.length → BInv o.length A → ArOk 20000 A → Rep A f F → Hangs (lvD o d) F → liveA A ≤ q → q + costD k ≤ 20000 →
  BdAt w g ga r co B o sv0 20000 A →
  Fun Try.prog 210 [.pointer (some ⟨g, 0, none⟩), .int .i64 (o.length : Int), .int .i64 f, .int .i64 (d : Int)] w fun v w' => ∃ A' sv', v = .tuple #[.int .i64 ((cntD o k d F : Nat) : Int), .int .i64 0] ∧ (ArOk 20000 A' ∧ BInv o.length A' ∧ Ext A A' ∧ liveA A' ≤ q + costD k) ∧
    Turn w w' (arR ga r sv0 20000 A) (arR ga r sv' 20000 A')
theorem ent210 : enters Try.prog 210 = true := by kernel_rfl
theorem c210_step {o : List Nat} (ho : OrdO o) (hn : o.length ≤ 8) {g ga r co : Nat} {B : Option Addr} {k : Nat} (IH : ∀ k', k' + 1 = k → CntC o g ga r co B k') : CntC o g ga r co B k := by
  intro d f F A sv0 w q hdk hA hok hf hF hq hr hbd
  refine fun_of_W (N := 55) Try.func210 ent210 rfl rfl rfl (by simp) ?_
  have H := hbd.start
  have bf := id_lt hok hf.there
  have bf0 := lvlA_nonneg hf.there
  refine cut_rule (γ := Unit) _ rfl (fun _ => []) (fun _ w' => Hp w (arR ga r sv0 20000 A).foot w' [arR ga r sv0 20000 A] (bdM g ga co B o)) ⟨(), trivial, H⟩ ?_
  clear H
  rintro ⟨⟩ u w0 H
  replace H : Hp _ _ _ _ _ := H
  have hp8 := pow_le_256 (n := k) (by omega)
  by_cases h2 : f < 2
  · have hc : F = fun _ => decide (f = 1) := by
      funext a
      rw [← hf.says, sem_none (nd_end (by omega))]
    have hcn := cntD_const o (decide (f = 1)) k d
    rw [← hc] at hcn
    have hwk : IntKind.i64.wrap ((o.length : Int) - d) = (k : Int) := by rw [wrap_i64_in (by omega) (by omega)]; omega
    have hf01 : f = 0 ∨ f = 1 := by omega
    refine cond_yes (decide_eq_true h2) ?_
    refine bin_by_eq (x' := ((f.toNat : Nat) : Int)) (by omega) hwk (bin_shl_i64 (by omega) ?_ ?_)
    · have : f.toNat ≤ 1 := by omega
      have := Nat.mul_le_mul_right (2 ^ k) this
      omega
    · have e : f.toNat * 2 ^ k = cntD o k d F := by
        rw [hcn]
        rcases hf01 with rfl | rfl <;> simp
      rw [e]
      exact ⟨A, sv0, rfl, ⟨hok, hA, Ext.refl _, by omega⟩, H.outTurn⟩
  · have hk0 : k ≠ 0 := fun h0 => by
      subst h0
      have hh : Hangs [] F := by
        have : lvD o d = [] := List.eq_nil_of_length_eq_zero (by rw [lvD_length]; omega)
        rwa [this] at hF
      have hfc : ∀ a, F a = F (fun _ => false) := fun a => hh _ _ fun j hj => by cases hj
      cases hz : F (fun _ => false) with
      | false =>
        have := rep_canon hA hf (rep_zero.congr fun a => (by rw [hfc, hz]))
        omega
      | true =>
        have := rep_canon hA hf (rep_one.congr fun a => (by rw [hfc, hz]))
        omega
    obtain ⟨k', rfl⟩ : ∃ k', k' + 1 = k := ⟨k - 1, by omega⟩
    have IH' := IH k' rfl
    have hcs := costD_succ k'
    have hlen := lvD_length o d
    have hdl : o.length - d = k' + 1 := by omega
    have hmem : o.idxOf d ∈ lvD o d := mem_lvD.2 ⟨d, Nat.le_refl _, by omega, rfl⟩
    have hp8' : 2 ^ k' ≤ 256 := pow_le_256 (by omega)
    have c0 := cntD_le o k' (d + 1) (halfF F (o.idxOf d) false)
    have c1 := cntD_le o k' (d + 1) (halfF F (o.idxOf d) true)
    have hcd : cntD o (k' + 1) d F = cntD o k' (d + 1) (halfF F (o.idxOf d) false) + cntD o k' (d + 1) (halfF F (o.idxOf d) true) := rfl
    have hwd : IntKind.i64.wrap ((d : Int) + 1) = ((d + 1 : Nat) : Int) := by rw [wrap_i64_in (by omega) (by omega)]; omega
    refine cut_rule (γ := Unit) _ rfl (fun _ => []) (fun _ w' => Hp w (arR ga r sv0 20000 A).foot w' [arR ga r sv0 20000 A] (bdM g ga co B o)) ?_ ?_
    · refine cond_no (decide_eq_false h2) ?_
      exact ⟨(), trivial, H⟩
    clear H
    rintro ⟨⟩ u w1 H
    replace H : Hp _ _ _ _ _ := H
    refine cut_rule (γ := Unit) _ rfl (fun _ => [(10, .int .i64 0)]) (fun _ w' => Hp w (arR ga r sv0 20000 A).foot w' [arR ga r sv0 20000 A] (bdM g ga co B o)) ⟨(), ⟨rfl, trivial⟩, H⟩ ?_
    clear H
    rintro ⟨⟩ u w1 H
    replace H : Hp _ _ _ _ _ := H
    -- one turn of the loop
    have body : ∀ (A1 : Ar) (sv1 : Value) (q1 : Nat) (b : Bool) (w2 : World), BInv o.length A1 → ArOk 20000 A1 → Ext A A1 → liveA A1 ≤ q1 → q1 + 2 * 2 ^ (k' + 1) + costD k' ≤ 20000 → Hp w (arR ga r sv0 20000 A).foot w2 [arR ga r sv1 20000 A1] (bdM g ga co B o) →
        Fun Try.prog 208 [.pointer (some ⟨g, 0, none⟩), .int .i64 (o.length : Int), .int .i64 f, .int .i64 (d : Int), .bool b] w2 fun x w3 => ∃ A2 sv2 id, x = .tuple #[.int .i64 id, .int .i64 0] ∧
          (ArOk 20000 A2 ∧ BInv o.length A2 ∧ Ext A1 A2 ∧ liveA A2 ≤ q1 + 2 * 2 ^ (k' + 1) ∧ Rep A2 id (halfF F (o.idxOf d) b)) ∧ Turn w2 w3 (arR ga r sv1 20000 A1) (arR ga r sv2 20000 A2) := by
      intro A1 sv1 q1 b w2 hA1 hok1 hx1 hq1 hr1 H
      refine (c208 ho hn f d b (by omega) (hf.ext hA.inv hA1.inv hx1) hF hmem w2 hA1 hok1 hq1 (by rw [hlen, hdl]; omega) (H.bdAt 0 rfl fun s hs => hs)).mono ?_
      rintro x w3 ⟨A2, sv2, id, rfl, ⟨h1, h2, h3, h4, h5⟩, ht⟩
      rw [hlen, hdl] at h4
      exact ⟨A2, sv2, id, rfl, ⟨h1, h2, h3, by omega, h5⟩, ht⟩
    refine cut_rule (γ := Value × Ar) _ rfl (fun _ => [(10, .int .i64 ((cntD o (k' + 1) d F : Nat) : Int))]) (fun (sv5, A5) w' => (ArOk 20000 A5 ∧ BInv o.length A5 ∧ Ext A A5 ∧ liveA A5 ≤ q + costD (k' + 1)) ∧ Hp w (arR ga r sv0 20000 A).foot w' [arR ga r sv5 20000 A5] (bdM g ga co B o)) ?_ ?_
    · refine loop_rule (γ := Nat × Value × Ar) _ rfl (fun (j, _) => [(22, .int .i64 (j : Int)), (10, .int .i64 (sum2 (cntD o k' (d + 1) (halfF F (o.idxOf d) false)) (cntD o k' (d + 1) (halfF F (o.idxOf d) true)) j))])
        (fun (j, sv1, A1) w' => (j ≤ 2 ∧ ArOk 20000 A1 ∧ BInv o.length A1 ∧ Ext A A1 ∧ liveA A1 ≤ q + j * (2 * 2 ^ (k' + 1) + costD k')) ∧ Hp w (arR ga r sv0 20000 A).foot w' [arR ga r sv1 20000 A1] (bdM g ga co B o)) (fun (j, _) => 2 - j) (0, sv0, A) ⟨rfl, rfl, trivial⟩ ⟨⟨by omega, hok, hA, Ext.refl _, by omega⟩, H⟩ ?_
      clear H
      rintro ⟨j, sv1, A1⟩ u w2 ⟨⟨hj, hok1, hA1, hx1, hl1⟩, H⟩
      replace H : Hp _ _ _ _ _ := H
      have hj' : j = 0 ∨ j = 1 ∨ j = 2 := by omega
      rcases hj' with rfl | rfl | rfl
      · have hb := fun w2 => body A1 sv1 (q + 0 * (2 * 2 ^ (k' + 1) + costD k')) false w2 hA1 hok1 hx1 hl1 (by omega)
        refine cond_yes rfl ?_
        refine call_fn (hb _ H) ?_
        rintro _ w4 ⟨A2, sv2, x, rfl, ⟨h1, h2', h3, h4, h5⟩, ht⟩
        replace H := H.turnBy 0 rfl ht
        clear ht
        refine cond_no rfl ?_
        have hc := fun w2 hb => IH' (d + 1) x _ A2 sv2 w2 (q + 0 * (2 * 2 ^ (k' + 1) + costD k') + 2 * 2 ^ (k' + 1)) (by omega) h2' h1 h5 (lvD_half hF false) h4 (by omega) hb
        rw [← hwd] at hc
        refine call_fn (hc _ (H.bdAt 0 rfl fun s hs => hs)) ?_
        rintro _ w5 ⟨A3, sv3, rfl, ⟨g1, g2, g3, g4⟩, ht⟩
        replace H := H.turnBy 0 rfl ht
        clear ht
        refine cond_no (bne_self_eq_false _) ?_
        exact ⟨(1, sv3, A3), by show 2 - 1 < 2 - 0; omega, ⟨up (by omega), congrArg (Value.int .i64) (by show IntKind.i64.wrap (0 + _) = _; rw [wrap_i64_in (by omega) (by omega)]; show _ = ((cntD o k' (d + 1) (halfF F (o.idxOf d) false) : Nat) : Int); omega), trivial⟩, ⟨by show 1 ≤ 2; omega, g1, g2, hx1.trans (h3.trans g3), by omega⟩, H⟩
      · have hb := fun w2 => body A1 sv1 (q + 1 * (2 * 2 ^ (k' + 1) + costD k')) true w2 hA1 hok1 hx1 hl1 (by omega)
        refine cond_yes rfl ?_
        refine call_fn (hb _ H) ?_
        rintro _ w4 ⟨A2, sv2, x, rfl, ⟨h1, h2', h3, h4, h5⟩, ht⟩
        replace H := H.turnBy 0 rfl ht
        clear ht
        refine cond_no rfl ?_
        have hc := fun w2 hb => IH' (d + 1) x _ A2 sv2 w2 (q + 1 * (2 * 2 ^ (k' + 1) + costD k') + 2 * 2 ^ (k' + 1)) (by omega) h2' h1 h5 (lvD_half hF true) h4 (by omega) hb
        rw [← hwd] at hc
        refine call_fn (hc _ (H.bdAt 0 rfl fun s hs => hs)) ?_
        rintro _ w5 ⟨A3, sv3, rfl, ⟨g1, g2, g3, g4⟩, ht⟩
        replace H := H.turnBy 0 rfl ht
        clear ht
        refine cond_no (bne_self_eq_false _) ?_
        exact ⟨(2, sv3, A3), by show 2 - 2 < 2 - 1; omega, ⟨up (by omega), congrArg (Value.int .i64) (by show IntKind.i64.wrap (((cntD o k' (d + 1) (halfF F (o.idxOf d) false) : Nat) : Int) + _) = _; rw [wrap_i64_in (by omega) (by omega)]; rfl), trivial⟩, ⟨by show 2 ≤ 2; omega, g1, g2, hx1.trans (h3.trans g3), by omega⟩, H⟩
      · refine cond_no (by rfl) ?_
        refine ⟨(sv1, A1), ⟨congrArg (Value.int .i64) ?_, trivial⟩, ⟨hok1, hA1, hx1, by omega⟩, H⟩
        exact Int.natCast_add _ _
    clear H
    rintro ⟨sv5, A5⟩ u w2 ⟨hfacts, H⟩
    replace H : Hp _ _ _ _ _ := H
    exact ⟨A5, sv5, rfl, hfacts, H.outTurn⟩
theorem c210 {o : List Nat} (ho : OrdO o) (hn : o.length ≤ 8) {g ga r co : Nat} {B : Option Addr} : ∀ k, CntC o g ga r co B k
  | 0 => c210_step ho hn fun k' h => by omega
  | k + 1 => c210_step ho hn fun k' h => by
    have : k' = k := by omega
    subst this
    exact c210 ho hn k'
end Go.Proofs.Ytjebpngdinbckaa
end

section
/- Diagrams composed: Count, and what is refused. -/
namespace Go.Proofs.Ytjebpngdinbckaa
open Go.Dk
attribute [local irreducible] IntKind.wrap

theorem ent152 : enters Try.prog 152 = true := by kernel_rfl
theorem c152_nil (m f : Int) (w : World) : Fun Try.prog 152 [.pointer none, .int .i64 m, .int .i64 f] w fun v w' => v = .tuple #[.int .i64 0, .int .i64 1] ∧ Same w w' := by
  refine fun_of_W (N := 29) Try.func152 ent152 rfl rfl rfl (by simp) ?_
  have H := Hp.start0 w
  refine cut_rule (γ := Unit) _ rfl (fun _ => []) (fun _ w' => Hp w (fun _ => False) w' [] []) ⟨(), trivial, H⟩ ?_
  clear H
  rintro ⟨⟩ u w0 H
  replace H : Hp _ _ _ _ _ := H
  refine call_fn (c206_nil m _) ?_
  rintro _ w1 ⟨rfl, hk⟩
  replace H := H.same hk
  refine cond_yes rfl ?_
  exact ⟨rfl, H.keeps⟩
/-- Count, of an id that is there or not. -/
theorem c152 {o : List Nat} (ho : OrdO o) (hn : o.length ≤ 8) {g ga r co : Nat} {B : Option Addr} {A : Ar} {sv0 : Value} (f : Int) (hf : f < 9223372036854775808) (w : World) (hA : BInv o.length A) (hok : ArOk 20000 A)
    {q : Nat} (hq : liveA A ≤ q) (hr : q + 8192 ≤ 20000) (hbd : BdAt w g ga r co B o sv0 20000 A) :
    Fun Try.prog 152 [.pointer (some ⟨g, 0, none⟩), .int .i64 (o.length : Int), .int .i64 f] w fun v w' => ∃ A' sv' x e, v = .tuple #[.int .i64 x, .int .i64 e] ∧
      (ArOk 20000 A' ∧ BInv o.length A' ∧ Ext A A' ∧
        ((¬ 0 ≤ lvlA A f ∧ e = 1 ∧ liveA A' ≤ q ∧ Ext A' A) ∨ (0 ≤ lvlA A f ∧ e = 0 ∧ liveA A' ≤ q + 8192 ∧ x = ((List.range (2 ^ o.length)).countP fun p => sem A f (asgP o p) : Nat)))) ∧ Turn w w' (arR ga r sv0 20000 A) (arR ga r sv' 20000 A') := by
  refine fun_of_W (N := 29) Try.func152 ent152 rfl rfl rfl (by simp) ?_
  have H := hbd.start
  refine cut_rule (γ := Unit) _ rfl (fun _ => []) (fun _ w' => Hp w (arR ga r sv0 20000 A).foot w' [arR ga r sv0 20000 A] (bdM g ga co B o)) ⟨(), trivial, H⟩ ?_
  clear H
  rintro ⟨⟩ u w0 H
  replace H : Hp _ _ _ _ _ := H
  refine cut_rule (γ := Value × Ar) _ rfl (fun _ => []) (fun (sv1, A1) w' => (ArOk 20000 A1 ∧ BInv o.length A1 ∧ Ext A A1 ∧ liveA A1 ≤ q ∧ Ext A1 A) ∧ Hp w (arR ga r sv0 20000 A).foot w' [arR ga r sv1 20000 A1] (bdM g ga co B o)) ?_ ?_
  · refine call_fn (c206 ho hn (o.length : Int) _ hA hok hq (by omega) (H.bdAt 0 rfl fun s hs => hs)) ?_
    rintro _ w1 ⟨A1, sv1, rfl, ⟨h1, h2, h3, h4, h5, _⟩, ht⟩
    rw [decide_eq_true rfl]
    rw [if_pos rfl] at h4
    refine cond_no rfl ?_
    exact ⟨(sv1, A1), trivial, ⟨h1, h2, h3, h4, h5 rfl⟩, H.turnBy 0 rfl ht⟩
  clear H
  rintro ⟨sv1, A1⟩ u w1 ⟨⟨hok1, hA1, hx1, hl1, hback⟩, H⟩
  replace H : Hp _ _ _ _ _ := H
  have hc := c110b ho f hf _ hA1 hok1 (H.bdAt 0 rfl fun s hs => hs)
  by_cases tf : 0 ≤ lvlA A f
  · have tf1 : 0 ≤ lvlA A1 f := by rw [hx1.lvl tf]; exact tf
    rw [if_pos tf1] at hc
    refine cut_rule (γ := Unit) _ rfl (fun _ => []) (fun _ w' => Hp w (arR ga r sv0 20000 A).foot w' [arR ga r sv1 20000 A1] (bdM g ga co B o)) ?_ ?_
    · refine call_fn hc ?_
      rintro _ w2 ⟨rfl, hk⟩
      replace H := H.same hk
      clear hk
      refine H.alloc 24 (cs := sc 0) zero24 sc_zero ?_
      clear H
      intro g10 w4 H
      refine H.storeSet 0 rfl ?_
      clear H
      intro w5 H
      refine cond_no (bne_self_eq_false _) ?_
      exact ⟨(), trivial, H.forget⟩
    clear H
    rintro ⟨⟩ u w2 H
    replace H : Hp _ _ _ _ _ := H
    have rf1 := (rep_self tf).ext hA.inv hA1.inv hx1
    have hlow : Low o.length (sem A f) := sem_low hA f
    have hcost : costD o.length ≤ 8192 := by
      unfold costD
      have h1 := pow_le_256 hn
      have h2 : 4 * o.length ≤ 32 := by omega
      have := Nat.mul_le_mul h2 h1
      omega
    have hcc := c210 ho hn (g := g) (ga := ga) (r := r) (co := co) (B := B) o.length 0 f (sem A f) A1 sv1
    refine call_fn (hcc _ q (by omega) hA1 hok1 rf1 (lvD_all ho hlow) hl1 (by omega) (H.bdAt 0 rfl fun s hs => hs)) ?_
    rintro _ w3 ⟨A2, sv2, rfl, ⟨h1, h2, h3, h4⟩, ht⟩
    exact ⟨A2, sv2, _, 0, rfl, ⟨h1, h2, hx1.trans h3, .inr ⟨tf, rfl, by omega, by rw [cntD_all ho hlow]⟩⟩, (H.turnBy 0 rfl ht).outTurn⟩
  · have tf1 : ¬ 0 ≤ lvlA A1 f := fun h => tf (by rw [hback.lvl h]; exact h)
    rw [if_neg tf1] at hc
    refine call_fn hc ?_
    rintro _ w2 ⟨rfl, hk⟩
    replace H := H.same hk
    clear hk
    refine H.alloc 24 (cs := sc 0) zero24 sc_zero ?_
    clear H
    intro g10 w4 H
    refine H.storeSet 0 rfl ?_
    clear H
    intro w5 H
    refine cond_yes rfl ?_
    exact ⟨A1, sv1, 0, 1, rfl, ⟨hok1, hA1, hx1, .inl ⟨tf, rfl, hl1, hback⟩⟩, H.forget.outTurn⟩
theorem c152_no {o : List Nat} (ho : OrdO o) (hn : o.length ≤ 8) {g ga r co : Nat} {B : Option Addr} {A : Ar} {sv0 : Value} (m f : Int) (hm : m ≠ o.length) (w : World) (hA : BInv o.length A) (hok : ArOk 20000 A)
    {q : Nat} (hq : liveA A ≤ q) (hr : q + 256 ≤ 20000) (hbd : BdAt w g ga r co B o sv0 20000 A) :
    Fun Try.prog 152 [.pointer (some ⟨g, 0, none⟩), .int .i64 m, .int .i64 f] w fun v w' => ∃ A' sv', v = .tuple #[.int .i64 0, .int .i64 1] ∧ FitA o m A A' ∧ Turn w w' (arR ga r sv0 20000 A) (arR ga r sv' 20000 A') := by
  refine fun_of_W (N := 29) Try.func152 ent152 rfl rfl rfl (by simp) ?_
  have H := hbd.start
  refine cut_rule (γ := Unit) _ rfl (fun _ => []) (fun _ w' => Hp w (arR ga r sv0 20000 A).foot w' [arR ga r sv0 20000 A] (bdM g ga co B o)) ⟨(), trivial, H⟩ ?_
  clear H
  rintro ⟨⟩ u w0 H
  replace H : Hp _ _ _ _ _ := H
  refine call_fn (c206 ho hn m _ hA hok hq hr (H.bdAt 0 rfl fun s hs => hs)) ?_
  rintro _ w1 ⟨A1, sv1, rfl, ⟨h1, h2, h3, h4, _, h5, h6⟩, ht⟩
  replace H := H.turnBy 0 rfl ht
  rw [decide_eq_false hm]
  refine cond_yes rfl ?_
  exact ⟨A1, sv1, rfl, ⟨h1, h2, h3, h5, h6⟩, H.outTurn⟩
theorem c150_no {o : List Nat} (ho : OrdO o) (hn : o.length ≤ 8) {g ga r co : Nat} {B : Option Addr} {A : Ar} {sv0 : Value} (m f : Int) (hm : m ≠ o.length) (w : World) (hA : BInv o.length A) (hok : ArOk 20000 A)
    {q : Nat} (hq : liveA A ≤ q) (hr : q + 256 ≤ 20000) (hbd : BdAt w g ga r co B o sv0 20000 A) :
    Fun Try.prog 150 [.pointer (some ⟨g, 0, none⟩), .int .i64 m, .int .i64 f] w fun v w' => ∃ A' sv', v = .tuple #[.int .u8 0, .int .i64 1] ∧ FitA o m A A' ∧ Turn w w' (arR ga r sv0 20000 A) (arR ga r sv' 20000 A') := by
  refine fun_of_W (N := 63) Try.func150 ent150 rfl rfl rfl (by simp) ?_
  have H := hbd.start
  refine cut_rule (γ := Unit) _ rfl (fun _ => []) (fun _ w' => Hp w (arR ga r sv0 20000 A).foot w' [arR ga r sv0 20000 A] (bdM g ga co B o)) ⟨(), trivial, H⟩ ?_
  clear H
  rintro ⟨⟩ u w0 H
  replace H : Hp _ _ _ _ _ := H
  refine call_fn (c206 ho hn m _ hA hok hq hr (H.bdAt 0 rfl fun s hs => hs)) ?_
  rintro _ w1 ⟨A1, sv1, rfl, ⟨h1, h2, h3, h4, _, h5, h6⟩, ht⟩
  replace H := H.turnBy 0 rfl ht
  rw [decide_eq_false hm]
  refine cond_yes rfl ?_
  exact ⟨A1, sv1, rfl, ⟨h1, h2, h3, h5, h6⟩, H.outTurn⟩
theorem c153_no {o : List Nat} (ho : OrdO o) (hn : o.length ≤ 8) {g ga r co : Nat} {B : Option Addr} {A : Ar} {sv0 : Value} (m f p : Int) (hm : m ≠ o.length) (w : World) (hA : BInv o.length A) (hok : ArOk 20000 A)
    {q : Nat} (hq : liveA A ≤ q) (hr : q + 256 ≤ 20000) (hbd : BdAt w g ga r co B o sv0 20000 A) :
    Fun Try.prog 153 [.pointer (some ⟨g, 0, none⟩), .int .i64 m, .int .i64 f, .int .i64 p] w fun v w' => ∃ A' sv', v = .tuple #[.bool false, .int .i64 1] ∧ FitA o m A A' ∧ Turn w w' (arR ga r sv0 20000 A) (arR ga r sv' 20000 A') := by
  refine fun_of_W (N := 31) Try.func153 ent153 rfl rfl rfl (by simp) ?_
  have H := hbd.start
  refine cut_rule (γ := Unit) _ rfl (fun _ => []) (fun _ w' => Hp w (arR ga r sv0 20000 A).foot w' [arR ga r sv0 20000 A] (bdM g ga co B o)) ⟨(), trivial, H⟩ ?_
  clear H
  rintro ⟨⟩ u w0 H
  replace H : Hp _ _ _ _ _ := H
  refine call_fn (c206 ho hn m _ hA hok hq hr (H.bdAt 0 rfl fun s hs => hs)) ?_
  rintro _ w1 ⟨A1, sv1, rfl, ⟨h1, h2, h3, h4, _, h5, h6⟩, ht⟩
  replace H := H.turnBy 0 rfl ht
  rw [decide_eq_false hm]
  refine cond_yes rfl ?_
  exact ⟨A1, sv1, rfl, ⟨h1, h2, h3, h5, h6⟩, H.outTurn⟩
end Go.Proofs.Ytjebpngdinbckaa
end

section
/- A drawn region's mixed walk, with operations that are told to be loud. -/
namespace Go.Dk

/-- Is an operation loud, or told to be so? -/
def loudS (S : Nat → Bool) (i : Nat) (op : Op) : Bool := S i || loud op
theorem loudS_no {S : Nat → Bool} {i : Nat} {op : Op} (h : loudS S i op = false) : loud op = false := by
  unfold loudS at h; cases hS : S i <;> rw [hS] at h <;> first | exact h | cases h

def pairCS (S : Nat → Bool) (ops : Array Oper) (c : Array Nat) (i j : Nat) : Bool :=
  match ops[i]?, ops[j]? with
  | some x, some y => (x.apart ops y && !(loudS S i x.op && loudS S j y.op)) || waitsC c j i
  | _, _ => true
def mixBS (S : Nat → Bool) (ops : Array Oper) : Bool :=
  directB ops && (List.range ops.size).all fun j => (List.range j).all fun i => pairCS S ops (closL ops.toList #[]) i j
def tailBS (S : Nat → Bool) (ops : Array Oper) (i : Nat) : Bool :=
  (List.range ops.size).all fun j => j == i || (match ops[j]? with | some o => loudS S j o.op | none => true) || waitsC (closL ops.toList #[]) i j

/-- The mixed walk, over operations that are still to come, in the text's order. -/
def wpMixS (S : Nat → Bool) (P : Program) (ops : Array Oper) (C : World → Prop) (Q : Act → World → Prop) : List Nat → Act → World → Prop
  | [], a, w => Q a w
  | i :: rest, a, w =>
    match ops[i]? with
    | none => wpMixS S P ops C Q rest a w
    | some o =>
      if Region.wanted o (yielded ops a.tmps) then
        (if loudS S i o.op then runsTo P o a.eval w fun v w' => (C w' ∨ tailBS S ops i = true) ∧ wpMixS S P ops C Q rest (a.put o.dst v) w'
         else ∃ v, quietE P C o a v ∧ wpMixS S P ops C Q rest (a.put o.dst v) w)
      else wpMixS S P ops C Q rest (a.put o.dst undef) w

/-- One operation taken. -/
def stepMixS (S : Nat → Bool) (P : Program) (ops : Array Oper) (C : World → Prop) (i : Nat) (K : Act → World → Prop) (a : Act) (w : World) : Prop :=
  match ops[i]? with
  | none => K a w
  | some o =>
    if Region.wanted o (yielded ops a.tmps) then
      (if loudS S i o.op then runsTo P o a.eval w fun v w' => (C w' ∨ tailBS S ops i = true) ∧ K (a.put o.dst v) w'
       else ∃ v, quietE P C o a v ∧ K (a.put o.dst v) w)
    else K (a.put o.dst undef) w

section mix
variable {S : Nat → Bool} {P : Program} {ops : Array Oper} {C : World → Prop}

theorem pullS {Q : Act → World → Prop} {i : Nat} {oi : Oper} (hi : ops[i]? = some oi) (hns : Region.noSelect ops = true) (post : List Nat) : ∀ (pre : List Nat) (a : Act) (w : World), (C w ∨ ∀ k ∈ pre ++ i :: post, ∀ o, ops[k]? = some o → loudS S k o.op = true) →
    (∀ k ∈ pre, ∀ ok, ops[k]? = some ok → ok.apart ops oi = true ∧ (loudS S k ok.op && loudS S i oi.op) = false ∧ (loudS S i oi.op = false → tailBS S ops k = false)) →
    wpMixS S P ops C Q (pre ++ i :: post) a w → stepMixS S P ops C i (wpMixS S P ops C Q (pre ++ post)) a w := by
  have hsel := Region.noSelect_spec hns
  intro pre
  induction pre with
  | nil => intro a w _ _ h; exact h
  | cons k pre ih =>
    intro a w hC hp h
    have ih' := fun a w hC h => ih a w hC (fun k hk => hp k (.tail _ hk)) h
    have hC' : C w ∨ ∀ k ∈ pre ++ i :: post, ∀ o, ops[k]? = some o → loudS S k o.op = true := hC.imp id fun hh k hk => hh k (.tail _ hk)
    simp only [List.cons_append, wpMixS] at h
    cases hk : ops[k]? with
    | none =>
      simp only [hk] at h
      have := ih' a w hC' h
      unfold stepMixS at this ⊢
      simp only [hi] at this ⊢
      simpa only [List.cons_append, wpMixS, hk] using this
    | some ok =>
      simp only [hk] at h
      obtain ⟨hap, hll, htl⟩ := hp k (.head _) ok hk
      obtain ⟨h1, h2, h3⟩ := Oper.apart_spec hap
      have selk := fun cs b => hsel k ok cs b hk
      have seli := fun cs b => hsel i oi cs b hi
      have exi : ∀ (a : Act) (u : Value), execOp (a.put ok.dst u).eval oi = execOp a.eval oi := fun a u => execOp_put oi seli a ok.dst u h1
      have exk : ∀ (a : Act) (u : Value), execOp (a.put oi.dst u).eval ok = execOp a.eval ok := fun a u => execOp_put ok selk a oi.dst u h3
      have wai : ∀ (a : Act) (u : Value), Region.wanted oi (yielded ops (a.put ok.dst u).tmps) = Region.wanted oi (yielded ops a.tmps) := fun a u => wanted_put oi a ok.dst u h1
      have wak : ∀ (a : Act) (u : Value), Region.wanted ok (yielded ops (a.put oi.dst u).tmps) = Region.wanted ok (yielded ops a.tmps) := fun a u => wanted_put ok a oi.dst u h3
      have comm : ∀ (a : Act) (u v : Value), (a.put ok.dst u).put oi.dst v = (a.put oi.dst v).put ok.dst u := fun a u v => (Act.put_comm a u v h2)
      have qi : ∀ (a : Act) (u v : Value), quietE P C oi (a.put ok.dst u) v ↔ quietE P C oi a v := fun a u v => by unfold quietE; rw [exi]
      have qk : ∀ (a : Act) (u v : Value), quietE P C ok (a.put oi.dst u) v ↔ quietE P C ok a v := fun a u v => by unfold quietE; rw [exk]
      by_cases hwk : Region.wanted ok (yielded ops a.tmps) = true
      · rw [if_pos hwk] at h
        by_cases hlk : loudS S k ok.op = true
        · rw [if_pos hlk] at h
          have hli : loudS S i oi.op = false := by simpa [hlk] using hll
          have hCw : C w := hC.resolve_right fun hh => by
            have := hh i (by simp) oi hi
            rw [hli] at this; cases this
          have h' := h.mono (k' := fun v w' => C w' ∧ stepMixS S P ops C i (wpMixS S P ops C Q (pre ++ post)) (a.put ok.dst v) w') fun v w' hh =>
            have hc := hh.1.resolve_right (by rw [htl hli]; simp)
            ⟨hc, ih' _ _ (.inl hc) hh.2⟩
          unfold stepMixS at h' ⊢
          simp only [hi, hli, wai] at h' ⊢
          by_cases hwi : Region.wanted oi (yielded ops a.tmps) = true
          · simp only [hwi, if_true, Bool.false_eq_true, if_false] at h' ⊢
            obtain ⟨v0, w0, _, u0, hu0, _⟩ := h'.some
            rw [qi] at hu0
            refine ⟨u0, hu0, ?_⟩
            simp only [List.cons_append, wpMixS, hk, wak, hwk, if_true, hlk]
            rw [runsTo_same (exk a u0)]
            refine h'.mono fun v w' ⟨hC', u, hu, hh⟩ => ⟨.inl hC', ?_⟩
            rw [qi] at hu
            have e := (hu w hCw).symm.trans (hu0 w hCw)
            injection e with e _
            injection e with e
            subst e
            rw [← comm]; exact hh
          · simp only [hwi, if_false, Bool.false_eq_true] at h' ⊢
            simp only [List.cons_append, wpMixS, hk, wak, hwk, if_true, hlk]
            rw [runsTo_same (exk a undef)]
            refine h'.mono fun v w' ⟨hC', hh⟩ => ⟨.inl hC', ?_⟩
            rw [← comm]; exact hh
        · rw [if_neg hlk] at h
          obtain ⟨v, hv, h⟩ := h
          have h' := ih' _ _ hC' h
          unfold stepMixS at h' ⊢
          simp only [hi, wai, runsTo_same (exi a v)] at h' ⊢
          have fin : ∀ u w', wpMixS S P ops C Q (pre ++ post) ((a.put ok.dst v).put oi.dst u) w' → wpMixS S P ops C Q (k :: pre ++ post) (a.put oi.dst u) w' := by
            intro u w' hh
            simp only [List.cons_append, wpMixS, hk, wak, hwk, if_true, hlk, if_false, Bool.false_eq_true]
            exact ⟨v, (qk a u v).2 hv, by rw [← comm]; exact hh⟩
          split
          · rename_i hwi
            rw [if_pos hwi] at h'
            split
            · rename_i hli
              rw [if_pos hli] at h'
              exact h'.mono fun u w' hh => ⟨hh.1, fin _ _ hh.2⟩
            · rename_i hli
              rw [if_neg hli] at h'
              obtain ⟨u, hu, hh⟩ := h'
              exact ⟨u, (qi a v u).1 hu, fin _ _ hh⟩
          · rename_i hwi
            rw [if_neg hwi] at h'
            exact fin _ _ h'
      · rw [if_neg hwk] at h
        have h' := ih' _ _ hC' h
        unfold stepMixS at h' ⊢
        simp only [hi, wai, runsTo_same (exi a undef)] at h' ⊢
        have fin : ∀ u w', wpMixS S P ops C Q (pre ++ post) ((a.put ok.dst undef).put oi.dst u) w' → wpMixS S P ops C Q (k :: pre ++ post) (a.put oi.dst u) w' := by
          intro u w' hh
          simp only [List.cons_append, wpMixS, hk, wak, hwk, if_false, Bool.false_eq_true]
          rw [← comm]; exact hh
        split
        · rename_i hwi
          rw [if_pos hwi] at h'
          split
          · rename_i hli
            rw [if_pos hli] at h'
            exact h'.mono fun u w' hh => ⟨hh.1, fin _ _ hh.2⟩
          · rename_i hli
            rw [if_neg hli] at h'
            obtain ⟨u, hu, hh⟩ := h'
            exact ⟨u, (qi a undef u).1 hu, fin _ _ hh⟩
        · rename_i hwi
          rw [if_neg hwi] at h'
          exact fin _ _ h'
theorem any_of_mixS {Q : Act → World → Prop} {Q' : Exit → Act → World → Prop} (hQ : ∀ a w, Q a w → Q' .normal a w) (hns : Region.noSelect ops = true) (hm : mixBS S ops = true) :
    ∀ (l : List Nat) (listed : Array Bool) (a : Act) (w : World), l.Pairwise (· < ·) → (∀ j, j ∈ l ↔ j < ops.size ∧ listed.getD j true = false) → listed.size = ops.size →
    (∀ j o, ops[j]? = some o → listed.getD j false = true → ∀ e ∈ o.after, Region.binds .any e = true → listed.getD e.on false = true) →
    (C w ∨ ∀ k ∈ l, ∀ o, ops[k]? = some o → loudS S k o.op = true) → wpMixS S P ops C Q l a w → wpAny P .any ops Q' l.length listed a w := by
  simp only [mixBS, Bool.and_eq_true] at hm
  obtain ⟨hdir, hpair⟩ := hm
  have key : ∀ (n : Nat) (l : List Nat) (listed : Array Bool) (a : Act) (w : World), l.length = n → l.Pairwise (· < ·) → (∀ j, j ∈ l ↔ j < ops.size ∧ listed.getD j true = false) → listed.size = ops.size →
    (∀ j o, ops[j]? = some o → listed.getD j false = true → ∀ e ∈ o.after, Region.binds .any e = true → listed.getD e.on false = true) →
    (C w ∨ ∀ k ∈ l, ∀ o, ops[k]? = some o → loudS S k o.op = true) → wpMixS S P ops C Q l a w → wpAny P .any ops Q' n listed a w := by
    intro n
    induction n with
    | zero =>
      intro l listed a w hn hpw hmem hsz hcl hC h
      have hl : l = [] := List.eq_nil_of_length_eq_zero hn
      subst hl
      refine ⟨?_, hQ _ _ h⟩
      rw [List.eq_nil_iff_forall_not_mem]
      intro i hi
      obtain ⟨h1, oi, h2, _⟩ := mem_ready.1 hi
      have := (hmem i).2 ⟨(Array.getElem?_eq_some_iff.1 h2).1, h1⟩
      cases this
    | succ n ih =>
      intro l listed a w hn hpw hmem hsz hcl hC h
      have gfalse : ∀ j, j < ops.size → j ∉ l → listed.getD j false = true := by
        intro j hj hjl
        have : ¬ listed.getD j true = false := fun hh => hjl ((hmem j).2 ⟨hj, hh⟩)
        have hjs : j < listed.size := by omega
        simp only [Array.getD, hjs, dif_pos] at this ⊢
        simpa using this
      constructor
      · intro hr
        exfalso
        cases l with
        | nil => simp at hn
        | cons i l =>
          have hi := (hmem i).1 (.head _)
          have hin : i ∈ Region.ready .any ops listed := by
            refine mem_ready.2 ⟨hi.2, ops[i], Array.getElem?_eq_getElem hi.1, ?_⟩
            intro e he hb
            have hlt := directB_spec hdir (Array.getElem?_eq_getElem hi.1) he hb
            refine gfalse _ (by omega) fun hmem' => ?_
            rcases List.mem_cons.1 hmem' with h | h
            · omega
            · have := (List.pairwise_cons.1 hpw).1 _ h; omega
          rw [hr] at hin
          cases hin
      · intro i hi
        obtain ⟨hun, oi, hoi, hpre⟩ := mem_ready.1 hi
        have hilt : i < ops.size := (Array.getElem?_eq_some_iff.1 hoi).1
        have hil : i ∈ l := (hmem i).2 ⟨hilt, hun⟩
        obtain ⟨pre, post, rfl⟩ := List.append_of_mem hil
        have hpw' := List.pairwise_append.1 hpw
        have hlt : ∀ k ∈ pre, k < i := fun k hk => hpw'.2.2 k hk i (.head _)
        have hgt : ∀ k ∈ post, i < k := fun k hk => (List.pairwise_cons.1 hpw'.2.1).1 k hk
        -- nothing that is still to come is waited for
        have hclD : Closed ops fun j => j = i ∨ listed.getD j false = true := fun j hj o ho e he hb => by
          rcases hj with rfl | hj
          · rw [hoi] at ho; injection ho with ho; subst ho
            exact .inr (hpre e he hb)
          · exact .inr (hcl j o ho hj e he hb)
        have hnw : ∀ k, k ≠ i → k ∈ pre ++ i :: post → waitsC (closL ops.toList #[]) i k = false := by
          intro k hki hk
          rw [Bool.eq_false_iff]
          intro hw
          rcases waitsC_step hclD i k (.inl rfl) hw with h | h
          · exact hki h
          · have := ((hmem k).1 hk)
            have hks : k < listed.size := by omega
            have h2 := this.2
            simp only [Array.getD, hks, dif_pos] at h h2
            rw [h] at h2; cases h2
        have hp : ∀ k ∈ pre, ∀ ok, ops[k]? = some ok → ok.apart ops oi = true ∧ (loudS S k ok.op && loudS S i oi.op) = false ∧ (loudS S i oi.op = false → tailBS S ops k = false) := by
          intro k hk ok hok
          rw [List.all_eq_true] at hpair
          have h1 := hpair i (List.mem_range.2 hilt)
          rw [List.all_eq_true] at h1
          have h2 := h1 k (List.mem_range.2 (hlt k hk))
          unfold pairCS at h2
          have hki : k ≠ i := by have := hlt k hk; omega
          simp only [hok, hoi, hnw k hki (by simp [hk]), Bool.or_false, Bool.and_eq_true] at h2
          refine ⟨h2.1, ?_, ?_⟩
          · have := h2.2
            cases hx : (loudS S k ok.op && loudS S i oi.op)
            · rfl
            · rw [hx] at this; cases this
          · intro hq
            rw [Bool.eq_false_iff]
            intro ht
            unfold tailBS at ht
            rw [List.all_eq_true] at ht
            have h3 := ht i (List.mem_range.2 hilt)
            simp only [hoi, hq, Bool.or_false, Bool.or_eq_true, beq_iff_eq] at h3
            rcases h3 with h3 | h3
            · exact hki h3.symm
            · have := waitsC_step (ops := ops) (D := fun j => j ≤ k) (fun j hj o ho e he hb => by have := directB_spec hdir ho he hb; show e.on ≤ k; omega) k i (Nat.le_refl _) h3
              have := hlt k hk
              omega
        have hs := pullS hoi hns post pre a w hC hp h
        have hnext : ∀ a' w', (C w' ∨ tailBS S ops i = true ∨ ∀ k ∈ pre ++ i :: post, ∀ o, ops[k]? = some o → loudS S k o.op = true) → wpMixS S P ops C Q (pre ++ post) a' w' → wpAny P .any ops Q' n (listed.setIfInBounds i true) a' w' := by
          intro a' w' hC' hh
          have his : i < listed.size := by omega
          have hC' : C w' ∨ ∀ k ∈ pre ++ post, ∀ o, ops[k]? = some o → loudS S k o.op = true := by
            rcases hC' with h | h | h
            · exact .inl h
            · refine .inr fun k hk o ho => ?_
              have hki : k ≠ i := by
                rcases List.mem_append.1 hk with h | h
                · have := hlt k h; omega
                · have := hgt k h; omega
              have hkl : k ∈ pre ++ i :: post := by
                rcases List.mem_append.1 hk with h | h
                · simp [h]
                · simp [h]
              unfold tailBS at h
              rw [List.all_eq_true] at h
              have h3 := h k (List.mem_range.2 ((hmem k).1 hkl).1)
              simp only [ho, hnw k hki hkl, Bool.or_false, Bool.or_eq_true, beq_iff_eq] at h3
              exact h3.resolve_left hki
            · exact .inr fun k hk => h k (by
                rcases List.mem_append.1 hk with h | h
                · simp [h]
                · simp [h])
          refine ih (pre ++ post) _ a' w' (by simp at hn ⊢; omega) ?_ ?_ (by simp [hsz]) ?_ hC' hh
          · exact List.pairwise_append.2 ⟨hpw'.1, (List.pairwise_cons.1 hpw'.2.1).2, fun x hx y hy => hpw'.2.2 x hx y (.tail _ hy)⟩
          · intro j
            have hj := hmem j
            by_cases hji : j = i
            · subst hji
              simp only [Array.getD, Array.size_setIfInBounds, his, dif_pos]
              constructor
              · intro hh
                rcases List.mem_append.1 hh with h | h
                · have := hlt j h; omega
                · have := hgt j h; omega
              · intro hh; simp at hh
            · rw [getD_set_ne true (Ne.symm hji)]
              rw [← hj]
              simp [hji]
          · intro j o ho hj e he hb
            have gset : ∀ k, (listed.setIfInBounds i true).getD k false = true ↔ k = i ∨ listed.getD k false = true := by
              intro k
              by_cases hki : k = i
              · subst hki; simp [Array.getD, his]
              · rw [getD_set_ne false (Ne.symm hki)]; simp [hki]
            rw [gset] at hj ⊢
            rcases hj with rfl | hj
            · rw [hoi] at ho; injection ho with ho; subst ho
              exact .inr (hpre e he hb)
            · exact .inr (hcl j o ho hj e he hb)
        unfold stepMixS at hs
        unfold wpOp
        simp only [hoi] at hs ⊢
        split
        · rename_i hw
          rw [if_pos hw] at hs
          left
          split at hs
          · exact hs.wp fun v w' hh => hnext _ _ (hh.1.imp id .inl) hh.2
          · rename_i hlo
            obtain ⟨v, hv, hh⟩ := hs
            have hCw : C w := hC.resolve_right fun hh => hlo (hh i (by simp) oi hoi)
            exact (runsTo_value (hv w hCw) (k := fun u w' => u = v ∧ w' = w) ⟨rfl, rfl⟩).wp fun u w' ⟨hu, hw'⟩ => by subst hu; subst hw'; exact hnext _ _ (.inl hCw) hh
        · rename_i hw
          rw [if_neg hw] at hs
          exact hnext _ _ (hC.imp id .inr) hs
  intro l listed a w hpw hmem hsz hcl hC h
  exact key _ l listed a w rfl hpw hmem hsz hcl hC h

theorem region_mixS {id : Nat} {Q : Act → World → Prop} {Q' : Exit → Act → World → Prop} (hQ : ∀ a w, Q a w → Q' .normal a w) (hf : P.follows .mixedOrders = true) (hns : Region.noSelect ops = true) (hm : mixBS S ops = true)
    {a : Act} {w : World} (hC : C { w with drawn := w.drawn + 1 }) (h : wpMixS S P ops C Q (List.range ops.size) a { w with drawn := w.drawn + 1 }) : (Code.region id ops true).wp P Q' a w := by
  refine wp_region_any hf ?_
  have := any_of_mixS (P := P) (C := C) hQ hns hm (List.range ops.size) (Array.replicate ops.size false) a _ List.pairwise_lt_range (fun j => by
    simp only [List.mem_range]
    constructor
    · intro hj; exact ⟨hj, by simp [Array.getD, hj]⟩
    · intro hj; exact hj.1) (by simp) (fun j o ho hj => by
      have hjs : j < ops.size := (Array.getElem?_eq_some_iff.1 ho).1
      simp [Array.getD, hjs] at hj) (.inl hC) h
  simpa using this
end mix

/-- The mixed walk of a region that draws its order. -/
def mixKS (S : Nat → Bool) (P : Program) (N : Nat) (C : World → Prop) (ops : Array Oper) (k : Fr → World → Prop) : Nat → List Oper → Fr → World → Prop
  | _, [], f, w => k f w
  | s, ⟨dst, op, ty, _, _, none⟩ :: rest, f, w =>
    match loudS S s op with
    | true => opV P op ty f w fun v w' => (C w' ∨ tailBS S ops s = true) ∧ mixKS S P N C ops k (s + 1) rest (puto N f dst v) w'
    | false => qopK P C op ty f fun v => mixKS S P N C ops k (s + 1) rest (puto N f dst v) w
  | s, ⟨dst, op, ty, _, _, some (j, want)⟩ :: rest, f, w =>
    match (ops[j]?).bind (·.dst) with
    | some d =>
      match f d with
      | .bool b =>
        match want, loudS S s op with
        | true, true => condB b (opV P op ty f w fun v w' => (C w' ∨ tailBS S ops s = true) ∧ mixKS S P N C ops k (s + 1) rest (puto N f dst v) w') (mixKS S P N C ops k (s + 1) rest (puto N f dst undef) w)
        | true, false => condB b (qopK P C op ty f fun v => mixKS S P N C ops k (s + 1) rest (puto N f dst v) w) (mixKS S P N C ops k (s + 1) rest (puto N f dst undef) w)
        | false, true => condB b (mixKS S P N C ops k (s + 1) rest (puto N f dst undef) w) (opV P op ty f w fun v w' => (C w' ∨ tailBS S ops s = true) ∧ mixKS S P N C ops k (s + 1) rest (puto N f dst v) w')
        | false, false => condB b (mixKS S P N C ops k (s + 1) rest (puto N f dst undef) w) (qopK P C op ty f fun v => mixKS S P N C ops k (s + 1) rest (puto N f dst v) w)
      | _ => mixKS S P N C ops k (s + 1) rest (puto N f dst undef) w
    | none => mixKS S P N C ops k (s + 1) rest (puto N f dst undef) w

theorem mixK_soundS {S : Nat → Bool} {P : Program} {N : Nat} {C : World → Prop} {ops : Array Oper} {k : Fr → World → Prop} : ∀ (l : List Oper) (s : Nat) (f : Fr) (w : World) (a : Act),
    (∀ j, j < l.length → l[j]? = ops[s + j]?) → R N a f → mixKS S P N C ops k s l f w → wpMixS S P ops C (fun a w => ∃ f, R N a f ∧ k f w) (List.range' s l.length) a w := by
  intro l
  induction l with
  | nil => intro s f w a _ hR h; exact ⟨f, hR, h⟩
  | cons o rest ih =>
    intro s f w a hl hR h
    have h0 : ops[s]? = some o := by have := hl 0 (by simp); simpa using this.symm
    have hl' : ∀ j, j < rest.length → rest[j]? = ops[s + 1 + j]? := fun j hj => by
      have := hl (j + 1) (by simp; omega)
      simpa [Nat.add_assoc, Nat.add_comm 1 j] using this
    have next : ∀ v w', mixKS S P N C ops k (s + 1) rest (puto N f o.dst v) w' → wpMixS S P ops C (fun a w => ∃ f, R N a f ∧ k f w) (List.range' (s + 1) rest.length) (a.put o.dst v) w' :=
      fun v w' hh => ih (s + 1) _ _ _ hl' (hR.put _ _) hh
    have run1 : (opV P o.op o.type f w fun v w' => (C w' ∨ tailBS S ops s = true) ∧ mixKS S P N C ops k (s + 1) rest (puto N f o.dst v) w') →
        runsTo P o a.eval w fun v w' => (C w' ∨ tailBS S ops s = true) ∧ wpMixS S P ops C (fun a w => ∃ f, R N a f ∧ k f w) (List.range' (s + 1) rest.length) (a.put o.dst v) w' := by
      intro hh
      have := opV_sound o hh
      rw [← hR.eval] at this
      exact this.mono fun v w' hv => ⟨hv.1, next _ _ hv.2⟩
    have run2 : loudS S s o.op = false → (qopK P C o.op o.type f fun v => mixKS S P N C ops k (s + 1) rest (puto N f o.dst v) w) →
        ∃ v, quietE P C o a v ∧ wpMixS S P ops C (fun a w => ∃ f, R N a f ∧ k f w) (List.range' (s + 1) rest.length) (a.put o.dst v) w := by
      intro hq hh
      obtain ⟨v, hv, hh⟩ := qopK_sound hR (loudS_no hq) hh
      exact ⟨v, hv, next _ _ hh⟩
    simp only [List.length_cons, List.range'_succ, wpMixS, h0]
    obtain ⟨dst, op, ty, pos, after, guard⟩ := o
    cases guard with
    | none =>
      simp only [Region.wanted, if_true]
      simp only [mixKS] at h
      cases hlo : loudS S s op with
      | true => simp only [hlo] at h; rw [if_pos rfl]; exact run1 h
      | false => simp only [hlo] at h; rw [if_neg (by simp)]; exact run2 hlo h
    | some jw =>
      obtain ⟨j, want⟩ := jw
      simp only [mixKS] at h
      simp only [Region.wanted]
      cases hd : (ops[j]?).bind (·.dst) with
      | none =>
        simp only [hd] at h
        have : yielded ops a.tmps j = none := by unfold yielded; simp [hd]
        simp [this]
        exact next _ _ h
      | some d =>
        simp only [hd] at h
        have hy := yielded_eq hR ops j d hd
        cases hfd : f d with
        | bool b =>
          simp only [hfd] at h hy
          cases hlo : loudS S s op <;> cases want <;> cases b <;> simp [condB_eq, hlo] at h <;> simp [hy] <;>
            first | exact run1 h | exact run2 hlo h | exact next _ _ h
        | _ => simp only [hfd] at h hy; simp [hy]; exact next _ _ h

theorem mixK_agreeS {S : Nat → Bool} {P : Program} {N : Nat} {C : World → Prop} {ops : Array Oper} {k : Fr → World → Prop} (D : List Nat) : ∀ (s : Nat) (l : List Oper) (f : Fr) (w : World), (∀ x ∈ dsts l, x ∈ D) →
    mixKS S P N C ops k s l f w → mixKS S P N C ops (fun f' w' => Agree D f' f ∧ k f' w') s l f w := by
  have gen : ∀ (l : List Oper) (s : Nat) (f0 f : Fr) (w : World), Agree D f f0 → (∀ x ∈ dsts l, x ∈ D) → mixKS S P N C ops k s l f w → mixKS S P N C ops (fun f' w' => Agree D f' f0 ∧ k f' w') s l f w := by
    intro l
    induction l with
    | nil => intro s f0 f w ha _ h; exact ⟨ha, h⟩
    | cons o rest ih =>
      intro s f0 f w ha hD h
      obtain ⟨dst, op, ty, pos, after, guard⟩ := o
      have hD' : ∀ x ∈ dsts rest, x ∈ D := fun x hx => hD x (by
        cases dst with
        | none => simpa [dsts] using hx
        | some d => simp only [dsts, List.filterMap_cons]; exact .tail _ hx)
      have hd : ∀ x, dst = some x → x ∈ D := fun x hx => hD x (by subst hx; simp [dsts])
      have nx : ∀ v w', mixKS S P N C ops k (s + 1) rest (puto N f dst v) w' → mixKS S P N C ops (fun f' w' => Agree D f' f0 ∧ k f' w') (s + 1) rest (puto N f dst v) w' :=
        fun v w' hh => ih (s + 1) f0 _ _ ((Agree.puto hd).trans ha) hD' hh
      have r1 : (opV P op ty f w fun v w' => (C w' ∨ tailBS S ops s = true) ∧ mixKS S P N C ops k (s + 1) rest (puto N f dst v) w') → opV P op ty f w fun v w' => (C w' ∨ tailBS S ops s = true) ∧ mixKS S P N C ops (fun f' w' => Agree D f' f0 ∧ k f' w') (s + 1) rest (puto N f dst v) w' :=
        fun hh => opV_mono (fun v w' hv => ⟨hv.1, nx _ _ hv.2⟩) hh
      have r2 : (qopK P C op ty f fun v => mixKS S P N C ops k (s + 1) rest (puto N f dst v) w) → qopK P C op ty f fun v => mixKS S P N C ops (fun f' w' => Agree D f' f0 ∧ k f' w') (s + 1) rest (puto N f dst v) w :=
        fun hh => qopK_mono (fun v hv => nx _ _ hv) hh
      cases guard with
      | none =>
        simp only [mixKS] at h ⊢
        cases hlo : loudS S s op <;> simp only [hlo] at h ⊢
        · exact r2 h
        · exact r1 h
      | some jw =>
        obtain ⟨j, want⟩ := jw
        simp only [mixKS] at h ⊢
        cases hdj : (ops[j]?).bind (·.dst) with
        | none => simp only [hdj] at h ⊢; exact nx _ _ h
        | some d =>
          simp only [hdj] at h ⊢
          cases hfd : f d with
          | bool b =>
            simp only [hfd] at h ⊢
            cases hlo : loudS S s op <;> cases want <;> cases b <;> simp only [hlo, condB_eq, if_true, if_false, Bool.false_eq_true] at h ⊢ <;> first | exact r1 h | exact r2 h | exact nx _ _ h
          | _ => simp only [hfd] at h ⊢; exact nx _ _ h
  exact fun s l f w hD h => gen l s f f w (.refl _ _) hD h

theorem draw_mixS (S : Nat → Bool) {P : Program} {N : Nat} {ops : Array Oper} {k : Fr → World → Prop} {f : Fr} {w : World} (C : World → Prop) (hf : P.follows .mixedOrders = true)
    (hB : (Region.noSelect ops && mixBS S ops) = true) (hC : C w.drew) (h : mixKS S P N C ops k 0 ops.toList f w.drew) : drawK P N ops k f w := by
  unfold drawK
  intro a hR id Q hQ
  simp only [Bool.and_eq_true] at hB
  refine region_mixS (C := C) (Q := fun a w => ∃ f', R N a f' ∧ (Agree (dsts ops.toList) f' f ∧ k f' w)) (fun a w ⟨f, hR, hk⟩ => hQ _ _ _ hR hk.1 hk.2) hf hB.1 hB.2 hC ?_
  have := mixK_soundS ops.toList 0 f w.drew a (fun j _ => by simp) hR (mixK_agreeS (dsts ops.toList) 0 ops.toList f w.drew (fun _ h => h) h)
  simpa [List.range_eq_range'] using this
end Go.Dk
end

section
/- Diagrams composed: Fix. -/
namespace Go.Proofs.Ytjebpngdinbckaa
open Go.Dk
attribute [local irreducible] IntKind.wrap

theorem mkCl {P : Program} {fn : Fn} {a c : List Value} {w : World} {k : Value → World → Prop} (h : k (.func fn a.toArray c.toArray) w) : makeFuncK P fn a c w k := by
  unfold makeFuncK
  exact ⟨_, w, by simp [Instr.makeFunc], h⟩
theorem agg123 : aggT Try.prog 123 = some false := by kernel_rfl
theorem agg25 : aggT Try.prog 25 = some false := by kernel_rfl
theorem size25 : sizeT Try.prog 25 = some 1 := by kernel_rfl
theorem zero25 : zeroT Try.prog 25 = some (.int .i64 0) := by kernel_rfl
/-- The inputs below k of the cube fixed. -/
def fixTo (o : List Nat) (m v : Nat) (F : Dk.Fn) : Nat → Dk.Fn
  | 0 => F
  | k + 1 => if m.testBit k then halfF (fixTo o m v F k) (o.idxOf k) (v.testBit k) else fixTo o m v F k
theorem rep_hangs {n : Nat} {A : Ar} {x : Int} {F : Dk.Fn} (h : Rep A x F) (hA : BInv n A) : Hangs (List.range n) F := by
  have : F = sem A x := by funext a; exact (h.says a).symm
  rw [this]; exact sem_hangs hA x
/-- What Fix holds beside the arena. -/
def fixL (g12 g7 g6 g5 g4 g m v n : Nat) (f : Int) : List Res := [blk g12 25 #[.int .i64 0], blk g7 46 (cc m v), blk g6 3 #[.int .i64 f], blk g5 3 #[.int .i64 (n : Int)], blk g4 123 #[.pointer (some ⟨g, 0, none⟩)]]
theorem ent207 : enters Try.prog 207 = true := by kernel_rfl
theorem c207 {o : List Nat} (ho : OrdO o) (hn : o.length ≤ 8) {g ga r co : Nat} {B : Option Addr} {A : Ar} {sv1 : Value} {w0 : World} {F : Nat → Prop} (g12 g7 g6 g5 g4 m v : Nat) (hm : m < 256) (hv : v < 256) (f : Int) {G : Dk.Fn} (i : Nat) (hi : i < o.length) (hf : Rep A f G) (hA : BInv o.length A) (hok : ArOk 20000 A)
    {q : Nat} (hq : liveA A ≤ q) (hr : q + 512 ≤ 20000) (w : World) (H : Hp w0 F w (arR ga r sv1 20000 A :: fixL g12 g7 g6 g5 g4 g m v o.length f) (bdM g ga co B o)) :
    Fun Try.prog 207 [.int .i64 (i : Int), .pointer (some ⟨g7, 0, none⟩), .pointer (some ⟨g12, 0, none⟩), .pointer (some ⟨g4, 0, none⟩), .pointer (some ⟨g5, 0, none⟩), .pointer (some ⟨g6, 0, none⟩)] w fun x w' => ∃ A' sv' f', x = .tuple #[] ∧
      (ArOk 20000 A' ∧ BInv o.length A' ∧ Ext A A' ∧ liveA A' ≤ q + (if m.testBit i = true then 512 else 0) ∧ Rep A' f' (if m.testBit i then halfF G (o.idxOf i) (v.testBit i) else G)) ∧ Hp w0 F w' (arR ga r sv' 20000 A' :: fixL g12 g7 g6 g5 g4 g m v o.length f') (bdM g ga co B o) := by
  refine fun_of_W (N := 31) Try.func207 ent207 rfl rfl rfl (by simp) ?_
  unfold fixL at H ⊢
  have hbm := bit_mod m i
  have hbv := bit_mod v i
  have hm' := pow_div_lt hm i
  have hv' := pow_div_lt hv i
  refine fieldAddr_by (fa46_0 _) ?_
  refine H.load 2 rfl agg5 rfl ?_
  refine bin_shr_u8 (by omega) ?_
  refine bin_by_eq rfl (y' := ((1 : Nat) : Int)) rfl (bin_and_u8 (by omega) (by omega) ?_)
  rw [Nat.and_one_is_mod, hbm]
  cases hb : m.testBit i with
  | false =>
    repeat refine cond_yes rfl ?_
    exact ⟨A, sv1, f, rfl, ⟨hok, hA, Ext.refl _, by rw [if_neg (by decide)]; omega, hf⟩, H⟩
  | true =>
    refine cond_no rfl ?_
    refine H.load 1 rfl agg25 rfl ?_
    repeat refine cond_no rfl ?_
    have hdr : Hp w0 F w [blk g12 25 #[.int .i64 0], blk g7 46 (cc m v), blk g6 3 #[.int .i64 f], blk g5 3 #[.int .i64 (o.length : Int)], blk g4 123 #[.pointer (some ⟨g, 0, none⟩)]] (bdM g ga co B o) := H.forget
    refine draw_mixS (fun i => i == 2) (fun u => ∃ e f', Hp w0 F u [blk g12 25 #[.int .i64 e], blk g7 46 (cc m v), blk g6 3 #[.int .i64 f'], blk g5 3 #[.int .i64 (o.length : Int)], blk g4 123 #[.pointer (some ⟨g, 0, none⟩)]] (bdM g ga co B o)) fol (by kernel_rfl) ⟨0, f, hdr.same (Keeps.drew _)⟩ ?_
    clear hdr
    replace H := H.same (Keeps.drew _)
    generalize w.drew = w1 at H
    refine quiet _ (fun w ⟨_, _, H⟩ => H.load 4 rfl agg123 rfl ⟨rfl, rfl⟩) ?_
    refine quiet _ (fun w ⟨_, _, H⟩ => H.load 3 rfl agg3 rfl ⟨rfl, rfl⟩) ?_
    refine H.load 3 rfl agg3 rfl ?_
    refine ⟨.inl ⟨_, _, H.forget⟩, ?_⟩
    refine quiet _ (fun w H => fieldAddr_by (fa46_1 _) ⟨rfl, rfl⟩) ?_
    refine quiet _ (fun w ⟨_, _, H⟩ => H.load 1 rfl agg5 rfl ⟨rfl, rfl⟩) ?_
    refine quiet _ (fun w H => bin_shr_u8 (by omega) ⟨rfl, rfl⟩) ?_
    refine quiet _ (fun w H => bin_by_eq rfl (y' := ((1 : Nat) : Int)) rfl (bin_and_u8 (by omega) (by omega) ⟨rfl, rfl⟩)) ?_
    rw [Nat.and_one_is_mod, hbv]
    have hc := fun w hb => c208 (g := g) (ga := ga) (r := r) (co := co) (B := B) (sv0 := sv1) ho hn f i (v.testBit i) hi hf (rep_hangs hf hA) (range_idx ho hi) w hA hok hq (by have := two_pow_len hn; omega) hb
    have hvv : v.testBit i = (((if v.testBit i = true then 1 else 0 : Nat) : Int) == 1) := by cases v.testBit i <;> rfl
    have e : Value.bool (v.testBit i) = Value.bool (((if v.testBit i = true then 1 else 0 : Nat) : Int) == 1) := congrArg Value.bool hvv
    rw [e] at hc
    refine call_fn (hc _ (H.bdAt 0 rfl fun s hs => hs)) ?_
    rintro _ w3 ⟨A', sv', f', rfl, ⟨h1, h2, h3, h4, h5⟩, ht⟩
    have h512 := two_pow_len hn
    replace H := H.turnBy 0 rfl ht
    clear ht
    refine ⟨.inl ⟨_, _, H.forget⟩, ?_⟩
    refine H.store 3 rfl size3 (by simp) rfl ?_
    clear H
    intro w4 H
    refine ⟨.inl ⟨_, _, H.forget⟩, ?_⟩
    refine H.store 1 rfl size25 (by simp) rfl ?_
    clear H
    intro w5 H
    refine ⟨.inl ⟨_, _, H.forget⟩, ?_⟩
    exact ⟨A', sv', f', rfl, ⟨h1, h2, h3, by rw [if_pos rfl]; omega, h5⟩, H⟩

theorem ent146 : enters Try.prog 146 = true := by kernel_rfl
theorem c146_no {o : List Nat} (ho : OrdO o) (hn : o.length ≤ 8) {g ga r co : Nat} {B : Option Addr} {A : Ar} {sv0 : Value} (M f : Int) (m v : Nat) (hm : M ≠ o.length) (w : World) (hA : BInv o.length A) (hok : ArOk 20000 A)
    {q : Nat} (hq : liveA A ≤ q) (hr : q + 256 ≤ 20000) (hbd : BdAt w g ga r co B o sv0 20000 A) :
    Fun Try.prog 146 [.pointer (some ⟨g, 0, none⟩), .int .i64 M, .int .i64 f, cv m v] w fun v w' => ∃ A' sv', v = .tuple #[.int .i64 0, .int .i64 1] ∧ FitA o M A A' ∧ Turn w w' (arR ga r sv0 20000 A) (arR ga r sv' 20000 A') := by
  refine fun_of_W (N := 47) Try.func146 ent146 rfl rfl rfl (by simp) ?_
  have H := hbd.start
  refine H.box 123 (.pointer (some ⟨g, 0, none⟩)) (cs := #[.pointer (some ⟨g, 0, none⟩)]) rfl ?_
  clear H
  intro g4 w1 H
  refine H.box 3 (.int .i64 M) (cs := #[.int .i64 M]) rfl ?_
  clear H
  intro g5 w2 H
  refine H.box 3 (.int .i64 f) (cs := #[.int .i64 f]) rfl ?_
  clear H
  intro g6 w3 H
  refine H.box 46 (cv m v) (cs := cc m v) rfl ?_
  clear H
  intro g7 w4 H
  refine H.load 3 rfl agg123 rfl ?_
  refine H.load 2 rfl agg3 rfl ?_
  refine call_fn (c206 ho hn M _ hA hok hq hr (H.bdAt 4 rfl fun s hs => hs)) ?_
  rintro _ w5 ⟨A1, sv1, rfl, ⟨h1, h2, h3, h4, _, h5, h6⟩, ht⟩
  replace H := H.turnBy 4 rfl ht
  rw [decide_eq_false hm]
  iterate 5 refine cond_yes rfl ?_
  refine cond_yes rfl ?_
  exact ⟨A1, sv1, rfl, ⟨h1, h2, h3, h5, h6⟩, ((H.front 4 rfl).takeN 1).outTurn⟩
theorem c146b {o : List Nat} (ho : OrdO o) (hn : o.length ≤ 8) {g ga r co : Nat} {B : Option Addr} {A : Ar} {sv0 : Value} (f : Int) (m v : Nat) (hm : m < 256) (hv : v < 256) (tf : 0 ≤ lvlA A f) (w : World) (hA : BInv o.length A) (hok : ArOk 20000 A)
    {q : Nat} (hq : liveA A ≤ q) (hr : q + 4096 ≤ 20000) (hbd : BdAt w g ga r co B o sv0 20000 A) :
    Fun Try.prog 146 [.pointer (some ⟨g, 0, none⟩), .int .i64 (o.length : Int), .int .i64 f, cv m v] w fun x w' => ∃ A' sv' id e, x = .tuple #[.int .i64 id, .int .i64 e] ∧
      (ArOk 20000 A' ∧ BInv o.length A' ∧ Ext A A' ∧ liveA A' ≤ q + 512 * (bitsBelow m o.length).length ∧
        ((rightN m v o.length = false ∧ id = 0 ∧ e = 1) ∨ (rightN m v o.length = true ∧ e = 0 ∧ Rep A' id (fixTo o m v (sem A f) o.length)))) ∧ Turn w w' (arR ga r sv0 20000 A) (arR ga r sv' 20000 A') := by
  refine fun_of_W (N := 47) Try.func146 ent146 rfl rfl rfl (by simp) ?_
  have bf := id_lt hok tf
  have H := hbd.start
  refine cut_rule (γ := Nat × Nat × Nat × Nat) _ rfl (fun (g4, g5, g6, g7) => [(4, .pointer (some ⟨g4, 0, none⟩)), (5, .pointer (some ⟨g5, 0, none⟩)), (6, .pointer (some ⟨g6, 0, none⟩)), (7, .pointer (some ⟨g7, 0, none⟩))]) (fun (g4, g5, g6, g7) w' => Hp w (arR ga r sv0 20000 A).foot w' [arR ga r sv0 20000 A, blk g7 46 (cc m v), blk g6 3 #[.int .i64 f], blk g5 3 #[.int .i64 (o.length : Int)], blk g4 123 #[.pointer (some ⟨g, 0, none⟩)]] (bdM g ga co B o)) ?_ ?_
  · refine H.box 123 (.pointer (some ⟨g, 0, none⟩)) (cs := #[.pointer (some ⟨g, 0, none⟩)]) rfl ?_
    clear H
    intro g4 w1 H
    refine H.box 3 (.int .i64 (o.length : Int)) (cs := #[.int .i64 (o.length : Int)]) rfl ?_
    clear H
    intro g5 w2 H
    refine H.box 3 (.int .i64 f) (cs := #[.int .i64 f]) rfl ?_
    clear H
    intro g6 w3 H
    refine H.box 46 (cv m v) (cs := cc m v) rfl ?_
    clear H
    intro g7 w4 H
    exact ⟨(g4, g5, g6, g7), ⟨rfl, rfl, rfl, rfl, trivial⟩, H.front 4 rfl⟩
  clear H
  rintro ⟨g4, g5, g6, g7⟩ u w1 H
  replace H : Hp _ _ _ _ _ := H
  cases hrt : rightN m v o.length with
  | false =>
    refine H.load 4 rfl agg123 rfl ?_
    refine H.load 3 rfl agg3 rfl ?_
    refine call_fn (c206 ho hn (o.length : Int) _ hA hok hq (by omega) (H.bdAt 0 rfl fun s hs => hs)) ?_
    rintro _ w2 ⟨A1, sv1, rfl, ⟨h1, h2, h3, h4, h5, _⟩, ht⟩
    rw [decide_eq_true rfl]
    rw [if_pos rfl] at h4
    replace H := H.turnBy 0 rfl ht
    clear ht
    refine cond_no rfl ?_
    refine H.loadAll 1 rfl agg46 size46 ?_
    refine cond_no rfl ?_
    refine H.load 3 rfl agg3 rfl ?_
    refine cond_no rfl ?_
    refine call_fn (c58_a _ _ (by assumption) (by assumption) _ (by assumption) _) ?_
    rintro _ w13 ⟨rfl, hk⟩
    replace H := H.same hk
    clear hk
    iterate 2 refine cond_no rfl ?_
    refine cond_yes (by simp only [*, Bool.not_false, Bool.not_true]) ?_
    exact ⟨A1, sv1, 0, 1, rfl, ⟨h1, h2, h3, by omega, .inl ⟨rfl, rfl, rfl⟩⟩, (H.takeN 1).outTurn⟩
  | true =>
    refine cut_rule (γ := Value × Ar) _ rfl (fun _ => []) (fun (sv1, A1) w' => (ArOk 20000 A1 ∧ BInv o.length A1 ∧ Ext A A1 ∧ liveA A1 ≤ q) ∧ Hp w (arR ga r sv0 20000 A).foot w' [arR ga r sv1 20000 A1, blk g7 46 (cc m v), blk g6 3 #[.int .i64 f], blk g5 3 #[.int .i64 (o.length : Int)], blk g4 123 #[.pointer (some ⟨g, 0, none⟩)]] (bdM g ga co B o)) ?_ ?_
    · refine H.load 4 rfl agg123 rfl ?_
      refine H.load 3 rfl agg3 rfl ?_
      refine call_fn (c206 ho hn (o.length : Int) _ hA hok hq (by omega) (H.bdAt 0 rfl fun s hs => hs)) ?_
      rintro _ w2 ⟨A1, sv1, rfl, ⟨h1, h2, h3, h4, h5, _⟩, ht⟩
      rw [decide_eq_true rfl]
      rw [if_pos rfl] at h4
      replace H := H.turnBy 0 rfl ht
      clear ht
      refine cond_no rfl ?_
      refine H.loadAll 1 rfl agg46 size46 ?_
      refine cond_no rfl ?_
      refine H.load 3 rfl agg3 rfl ?_
      refine cond_no rfl ?_
      refine call_fn (c58 _ _ (by first | assumption | omega | decide) (by first | assumption | omega | decide) _ _) ?_
      rintro _ w12 ⟨rfl, hk⟩
      replace H := H.same hk
      clear hk
      iterate 2 refine cond_no rfl ?_
      refine cond_no (by simp only [*, Bool.not_false, Bool.not_true]) ?_
      exact ⟨(sv1, A1), trivial, ⟨h1, h2, h3, h4⟩, H⟩
    clear H
    rintro ⟨sv1, A1⟩ u w2 ⟨⟨hok1, hA1, hx1, hl1⟩, H⟩
    replace H : Hp _ _ _ _ _ := H
    have tf1 : 0 ≤ lvlA A1 f := by rw [hx1.lvl tf]; exact tf
    refine cut_rule (γ := Unit) _ rfl (fun _ => []) (fun _ w' => Hp w (arR ga r sv0 20000 A).foot w' [arR ga r sv1 20000 A1, blk g7 46 (cc m v), blk g6 3 #[.int .i64 f], blk g5 3 #[.int .i64 (o.length : Int)], blk g4 123 #[.pointer (some ⟨g, 0, none⟩)]] (bdM g ga co B o)) ?_ ?_
    · have hc := fun w1 hb => c110b (g := g) (ga := ga) (r := r) (co := co) (B := B) (room := 20000) (sv0 := sv1) ho f (by omega) w1 hA1 hok1 hb
      rw [if_pos tf1] at hc
      refine H.load 4 rfl agg123 rfl ?_
      refine H.load 2 rfl agg3 rfl ?_
      refine call_fn (hc _ (H.bdAt 0 rfl fun s hs => hs)) ?_
      rintro _ w2 ⟨rfl, hk⟩
      replace H := H.same hk
      clear hk
      refine H.alloc 24 (cs := sc 0) zero24 sc_zero ?_
      clear H
      intro g10 w4 H
      refine H.storeSet 0 rfl ?_
      clear H
      intro w5 H
      refine cond_no (bne_self_eq_false _) ?_
      exact ⟨(), trivial, H.forget⟩
    clear H
    rintro ⟨⟩ u w3 H
    replace H : Hp _ _ _ _ _ := H
    refine cut_rule (γ := Nat) _ rfl (fun g12 => [(12, .pointer (some ⟨g12, 0, none⟩))]) (fun g12 w' => Hp w (arR ga r sv0 20000 A).foot w' (arR ga r sv1 20000 A1 :: fixL g12 g7 g6 g5 g4 g m v o.length f) (bdM g ga co B o)) ?_ ?_
    · refine H.alloc 25 (cs := #[.int .i64 0]) zero25 rfl ?_
      clear H
      intro g12 w4 H
      refine H.store 0 rfl size25 (by simp) rfl ?_
      clear H
      intro w5 H
      exact ⟨g12, ⟨rfl, trivial⟩, H.front 1 rfl⟩
    clear H
    rintro g12 u w4 H
    replace H : Hp _ _ _ _ _ := H
    refine cut_rule (γ := Unit) _ rfl (fun _ => [(13, .func (.func 207) #[] #[.pointer (some ⟨g7, 0, none⟩), .pointer (some ⟨g12, 0, none⟩), .pointer (some ⟨g4, 0, none⟩), .pointer (some ⟨g5, 0, none⟩), .pointer (some ⟨g6, 0, none⟩)])]) (fun _ w' => Hp w (arR ga r sv0 20000 A).foot w' (arR ga r sv1 20000 A1 :: fixL g12 g7 g6 g5 g4 g m v o.length f) (bdM g ga co B o)) ?_ ?_
    · refine mkCl ?_
      exact ⟨(), ⟨rfl, trivial⟩, H⟩
    clear H
    rintro ⟨⟩ u w4 H
    replace H : Hp _ _ _ _ _ := H
    refine cut_rule (γ := Int × Value × Ar) _ rfl (fun _ => []) (fun (id, sv5, A5) w' => (ArOk 20000 A5 ∧ BInv o.length A5 ∧ Ext A A5 ∧ liveA A5 ≤ q + 512 * (bitsBelow m o.length).length ∧ Rep A5 id (fixTo o m v (sem A f) o.length)) ∧ Hp w (arR ga r sv0 20000 A).foot w' (arR ga r sv5 20000 A5 :: fixL g12 g7 g6 g5 g4 g m v o.length id) (bdM g ga co B o)) ?_ ?_
    · unfold fixL at H
      refine H.load 4 rfl agg3 rfl ?_
      refine loop_rule (γ := Nat × Int × Value × Ar) _ rfl (fun (i, _) => [(36, .int .i64 (i : Int))])
        (fun (i, id, sv2, A2) w' => (i ≤ o.length ∧ ArOk 20000 A2 ∧ BInv o.length A2 ∧ Ext A A2 ∧ liveA A2 ≤ q + 512 * (bitsBelow m i).length ∧ Rep A2 id (fixTo o m v (sem A f) i)) ∧ Hp w (arR ga r sv0 20000 A).foot w' (arR ga r sv2 20000 A2 :: fixL g12 g7 g6 g5 g4 g m v o.length id) (bdM g ga co B o))
        (fun (i, _) => o.length - i) (0, f, sv1, A1) ⟨rfl, trivial⟩ ⟨⟨Nat.zero_le _, hok1, hA1, hx1, (show liveA A1 ≤ q + 512 * (bitsBelow m 0).length from Nat.le_trans hl1 (Nat.le_add_right _ _)), (rep_self tf).ext hA.inv hA1.inv hx1⟩, H⟩ ?_
      clear H
      rintro ⟨i, id, sv2, A2⟩ u w5 ⟨⟨hi, hok2, hA2, hx2, hl2, hrep⟩, H⟩
      replace H : Hp _ _ _ _ _ := H
      refine cond_dec (fun h7 => ?_) (fun h7 => ?_)
      · have hbl := bitsBelow_le m i
        refine call_fnC (c207 ho hn g12 g7 g6 g5 g4 m v hm hv id i (by omega) hrep hA2 hok2 hl2 (by omega) _ H) ?_
        rintro _ w6 ⟨A3, sv3, id', rfl, ⟨h1, h2, h3, h4, h5⟩, H⟩
        have hl3 : liveA A3 ≤ q + 512 * (bitsBelow m (i + 1)).length := by
          rw [bitsBelow_succ, List.length_append, Nat.mul_add, ← Nat.add_assoc]
          refine Nat.le_trans h4 (Nat.add_le_add_left ?_ _)
          cases m.testBit i <;> simp
        have h6 : Rep A3 id' (fixTo o m v (sem A f) (i + 1)) := h5
        exact ⟨(i + 1, id', sv3, A3), by show o.length - (i + 1) < o.length - i; omega, ⟨up (by omega), trivial⟩, ⟨by show i + 1 ≤ o.length; omega, h1, h2, hx2.trans h3, hl3, h6⟩, H⟩
      · obtain rfl : i = o.length := by omega
        exact ⟨(id, sv2, A2), trivial, ⟨hok2, hA2, hx2, hl2, hrep⟩, H⟩
    clear H
    rintro ⟨id, sv5, A5⟩ u w5 ⟨⟨h1, h2, h3, h4, h5⟩, H⟩
    replace H : Hp _ _ _ _ _ := H
    unfold fixL at H
    refine H.load 1 rfl agg25 rfl ?_
    refine cond_no rfl ?_
    refine H.load 3 rfl agg3 rfl ?_
    exact ⟨A5, sv5, id, 0, rfl, ⟨h1, h2, h3, h4, .inr ⟨rfl, rfl, h5⟩⟩, (H.takeN 1).outTurn⟩
theorem c146 {o : List Nat} (ho : OrdO o) (hn : o.length ≤ 8) {g ga r co : Nat} {B : Option Addr} {A : Ar} {sv0 : Value} (f : Int) (m v : Nat) (hm : m < 256) (hv : v < 256) (tf : 0 ≤ lvlA A f) (w : World) (hA : BInv o.length A) (hok : ArOk 20000 A)
    {q : Nat} (hq : liveA A ≤ q) (hr : q + 4096 ≤ 20000) (hbd : BdAt w g ga r co B o sv0 20000 A) :
    Fun Try.prog 146 [.pointer (some ⟨g, 0, none⟩), .int .i64 (o.length : Int), .int .i64 f, cv m v] w fun x w' => ∃ A' sv' id e, x = .tuple #[.int .i64 id, .int .i64 e] ∧
      (ArOk 20000 A' ∧ BInv o.length A' ∧ Ext A A' ∧ liveA A' ≤ q + 4096 ∧
        ((rightN m v o.length = false ∧ id = 0 ∧ e = 1) ∨ (rightN m v o.length = true ∧ e = 0 ∧ Rep A' id (fixTo o m v (sem A f) o.length)))) ∧ Turn w w' (arR ga r sv0 20000 A) (arR ga r sv' 20000 A') := by
  refine (c146b ho hn f m v hm hv tf w hA hok hq hr hbd).mono ?_
  rintro _ w' ⟨A', sv', id, e, rfl, ⟨h1, h2, h3, h4, h5⟩, ht⟩
  have hbl := bitsBelow_le m o.length
  exact ⟨A', sv', id, e, rfl, ⟨h1, h2, h3, by omega, h5⟩, ht⟩
end Go.Proofs.Ytjebpngdinbckaa
end

import Derived.Test.YtjebpngdinbckaaPart6
/- Lemmas, part 7: what the proof of the row uses. -/
section
/- Decision diagrams: what is answered where there is room enough; knows. -/
namespace Go.Proofs.Ytjebpngdinbckaa
open Go.Dk
attribute [local irreducible] IntKind.wrap

theorem iteF_low {n : Nat} {A : Ar} (h : BInv n A) (f p q : Int) : Low n (iteF A f p q) := fun a b hab => by
  unfold iteF
  rw [sem_low h f a b hab, sem_low h p a b hab, sem_low h q a b hab]
theorem fixF_low {n : Nat} {A : Ar} (h : BInv n A) (f : Int) (level : Nat) (v : Bool) : Low n (fixF A f level v) := (sem_low h f).up level v
theorem made_small {n : Nat} {room : Int} {A A' : Ar} {F : Dk.Fn} {id e : Int} (h : Made n room A A' F id e) (hF : Low n F) (hn : n ≤ 8) {q : Nat} (hq : liveA A ≤ q) (hr : (q : Int) + 256 ≤ room) : e = 0 ∧ Rep A' id F ∧ liveA A' ≤ q + 255 := by
  have hD := low_hangs hF
  have h1 := made_few h hD
  have hp := pow_le_256 hn
  have hc : (2 : Int) ^ n = ((2 ^ n : Nat) : Int) := by simp
  rw [List.length_range] at h1
  obtain ⟨he, hrep⟩ := made_ok h hD (by rw [List.length_range, hc]; omega)
  exact ⟨he, hrep, by omega⟩
theorem some_small {n : Nat} {room : Int} {A A' : Ar} {f : Int} {level : Nat} {id e : Int} (h : SomeR n room A A' f level id e) (hA : BInv n A) (hn : n ≤ 8) {q : Nat} (hq : liveA A ≤ q) (hr : (q : Int) + 1024 ≤ room) :
    e = 0 ∧ Rep A' id (fun a => sem A f a || sem A f (upA a level (!a level))) ∧ liveA A' ≤ q + 765 ∧ Ext A A' ∧ BInv n A' := by
  rcases h with ⟨x, m1, he, _⟩ | ⟨A1, x, y, m1, m2, he, _⟩ | ⟨A1, A2, x, y, m1, m2, m3⟩
  · exact absurd (made_small m1 (fixF_low hA f level false) hn hq (by omega)).1 he
  · obtain ⟨_, _, l1⟩ := made_small m1 (fixF_low hA f level false) hn hq (by omega)
    exact absurd (made_small m2 (fixF_low hA f level true) hn l1 (by omega)).1 he
  · obtain ⟨_, r1, l1⟩ := made_small m1 (fixF_low hA f level false) hn hq (by omega)
    obtain ⟨_, r2, l2⟩ := made_small m2 (fixF_low hA f level true) hn l1 (by omega)
    obtain ⟨he, r3, l3⟩ := made_small m3 (iteF_low m2.inv x 1 y) hn l2 (by omega)
    refine ⟨he, r3.congr fun a => ?_, by omega, (m1.ext.trans m2.ext).trans m3.ext, m3.inv⟩
    have r1' := r1.ext m1.inv.inv m2.inv.inv m2.ext
    unfold iteF
    rw [r1'.says, r2.says, sem_none (nd_end (.inr rfl))]
    exact some_or (sem A f) level a
theorem _root_.Go.Dk.Hp.takeN {w0 w : World} {F : Nat → Prop} {L M : List Res} (H : Hp w0 F w L M) (n : Nat) : Hp w0 F w (L.take n) M :=
  ⟨H.keeps, fun s hs => H.ok s (List.mem_of_mem_take hs), fun s hs => H.lt s (List.mem_of_mem_take hs), fun s hs => H.new s (List.mem_of_mem_take hs), H.dis.sublist (List.take_sublist _ _), H.rok, H.rlt, fun q hq s hs => H.rdis q hq s (List.mem_of_mem_take hs)⟩
theorem reach_size {o : List Nat} (ho : OrdO o) {A : Ar} (h : BInv o.length A) {s : Nat} {id : Int} (hr : Rep A id (FnS o s)) : (reachL A id).length = sizeS o s := by
  unfold reachL reachTo
  rw [List.length_map]
  refine reach_count ho h hr (List.nodup_range.sublist List.filter_sublist) fun x => ?_
  rw [List.mem_filter, List.mem_range, reach_spec h.inv]
  constructor
  · exact fun h => h.2
  · intro hx
    obtain ⟨d, hd⟩ := hx.slot
    exact ⟨slot_lt hd, hx⟩
/-! The examples. -/
theorem ordI01 : OrdI [0, 1] := by decide
theorem ent106 : enters Try.prog 106 = true := by kernel_rfl
theorem c106 (w : World) : Fun Try.prog 106 [] w fun v w' => v = .bool true ∧ Same w w' := by
  refine fun_of_W (N := 78) Try.func106 ent106 rfl rfl rfl (by simp) ?_
  have H := Hp.start0 w
  have ho : OrdO (natsI [0, 1]) := ordI01.nats
  have ho8 : (natsI [0, 1]).length ≤ 8 := ho.le
  refine cut_rule (γ := Unit) _ rfl (fun _ => [(0, .bool false)]) (fun _ w' => Hp w (fun _ => False) w' [] []) ⟨(), ⟨rfl, trivial⟩, H⟩ ?_
  clear H
  rintro ⟨⟩ u w0 H
  replace H : Hp _ _ _ _ _ := H
  refine cut_rule (γ := Nat × Nat × Nat × Nat × Option Addr) _ rfl (fun (g, _) => [(1, .pointer (some ⟨g, 0, none⟩)), (2, .int .i64 0)]) (fun (g, ga, r, co, B) w' => Hp w (fun _ => False) w' [arR ga r (.slice none 0 0) 20000 []] (bdM g ga co B (natsI [0, 1]) ++ [])) ?_ ?_
  · refine H.buildSl T32 (n := 2) (cs := #[.int .i64 0, .int .i64 1]) (by omega) (by omega) (by kernel_rfl) ?_
    clear H
    intro g5 w1 H
    refine call_fn (c113 [0, 1] (some ⟨g5, 0, none⟩) 2 20000 _ (by decide) (blkN_Sl (H.get 0 rfl) (blk_lt (H.get 0 rfl)) rfl (by decide))) ?_
    rintro _ w2 (⟨h, _⟩ | ⟨_, _, _, g, ga, r, co, B, rfl, hn⟩)
    · rcases h with h | h | h
      · exact absurd ordI01 h
      · exact absurd h (by decide)
      · exact absurd h (by decide)
    · exact ⟨(g, ga, r, co, B), ⟨rfl, rfl, trivial⟩, (H.addNew hn).bdOpen.takeN 1⟩
  clear H
  rintro ⟨g, ga, r, co, B⟩ u w1 H
  replace H : Hp _ _ _ _ _ := H
  have hA0 : BInv (natsI [0, 1]).length [] := BInv.nil _
  have hok0 : ArOk 20000 [] := ok_start (by decide) (by decide)
  refine cut_rule (γ := Int × Value × Ar) _ rfl (fun (f, _) => [(3, .int .i64 f), (4, .int .i64 0)]) (fun (f, sv1, A1) w' => (ArOk 20000 A1 ∧ BInv (natsI [0, 1]).length A1 ∧ liveA A1 ≤ 255 ∧ Rep A1 f (FnS (natsI [0, 1]) 10)) ∧ Hp w (fun _ => False) w' [arR ga r sv1 20000 A1] (bdM g ga co B (natsI [0, 1]) ++ [])) ?_ ?_
  · refine build24_10 ?_
    refine call_fn (c108 ho ho8 (s := 10) (by decide) _ hA0 hok0 H.bdAt') ?_
    rintro _ w2 ⟨A1, sv1, f, e, rfl, (⟨h, _⟩ | ⟨_, hm⟩), hok1, ht⟩
    · exact absurd (by decide +kernel) h
    · obtain ⟨rfl, hr, hl⟩ := made_small hm (FnS_low ho 10) ho8 (q := 0) (by decide) (by decide)
      exact ⟨(f, sv1, A1), ⟨rfl, rfl, trivial⟩, ⟨hok1, hm.inv, hl, hr⟩, H.turnBy 0 rfl ht⟩
  clear H hok0 hA0
  rintro ⟨f, sv1, A1⟩ u w2 ⟨⟨hok1, hA1, hl1, hr1⟩, H⟩
  replace H : Hp _ _ _ _ _ := H
  have tf := hr1.there
  have hfl := id_lt hok1 tf
  have hf1 : 1 < f := by
    have h0 : f ≠ 0 := fun h => by
      have := hr1.says (fun k => k == 0)
      rw [h, sem_none (nd_end (.inl rfl))] at this
      exact absurd this (by decide)
    have h1 : f ≠ 1 := fun h => by
      have := hr1.says (fun _ => false)
      rw [h, sem_none (nd_end (.inr rfl))] at this
      exact absurd this (by decide)
    have := lvlA_nonneg tf
    omega
  refine cut_rule (γ := Nat) _ rfl (fun g5 => [(5, .pointer (some ⟨g5, 0, none⟩)), (6, .int .i64 0)]) (fun g5 w' => Hp w (fun _ => False) w' [arR ga r sv1 20000 A1, blk g5 24 (sc 10)] (bdM g ga co B (natsI [0, 1]) ++ [])) ?_ ?_
  · have hset : setD (natsI [0, 1]) A1 f = 10 := setD_rep ho hr1 (by decide) (fun p hp => by
      have : p < 4 := by
        rcases Nat.lt_or_ge p 4 with h | h
        · exact h
        · rw [Nat.testBit_lt_two_pow (Nat.lt_of_lt_of_le (by decide : 10 < 2 ^ 4) (Nat.pow_le_pow_right (by decide) h))] at hp; cases hp
      exact this) (fun p hp => FnS_asg ho 10 hp)
    have hc := c110b ho f (by omega) _ hA1 hok1 H.bdAt'
    rw [if_pos tf, hset] at hc
    refine call_fn hc ?_
    rintro _ w3 ⟨rfl, hk⟩
    replace H := H.same hk
    clear hk
    refine H.alloc 24 (cs := sc 0) zero24 sc_zero ?_
    clear H
    intro g5 w4 H
    refine H.storeSet 0 rfl ?_
    clear H
    intro w5 H
    exact ⟨g5, ⟨rfl, rfl, trivial⟩, H.front 1 rfl⟩
  clear H
  rintro g5 u w3 H
  replace H : Hp _ _ _ _ _ := H
  have t0 : ∀ A : Ar, 0 ≤ lvlA A 0 := fun A => by rw [lvl_end (.inl rfl)]; decide
  have t1 : ∀ A : Ar, 0 ≤ lvlA A 1 := fun A => by rw [lvl_end (.inr rfl)]; decide
  refine cut_rule (γ := Int × Value × Ar) _ rfl (fun (x, _) => [(7, .int .i64 x), (8, .int .i64 0)]) (fun (x, sv2, A2) w' => (ArOk 20000 A2 ∧ BInv (natsI [0, 1]).length A2 ∧ liveA A2 ≤ 510 ∧ Ext A1 A2 ∧ Rep A2 x (iteF A1 f 0 1)) ∧ Hp w (fun _ => False) w' [arR ga r sv2 20000 A2, blk g5 24 (sc 10)] (bdM g ga co B (natsI [0, 1]) ++ [])) ?_ ?_
  · refine call_fn (c128 ho8 f (by omega) _ hA1 hok1 H.bdAt') ?_
    rintro _ w4 ⟨A2, sv2, x, e, rfl, hm, hok2, ht⟩
    have hm := hm.made tf (t0 _) (t1 _)
    obtain ⟨rfl, hr, hl⟩ := made_small hm (iteF_low hA1 _ _ _) ho8 hl1 (by decide)
    exact ⟨(x, sv2, A2), ⟨rfl, rfl, trivial⟩, ⟨hok2, hm.inv, hl, hm.ext, hr⟩, H.turnBy 0 rfl ht⟩
  clear H
  rintro ⟨x, sv2, A2⟩ u w4 ⟨⟨hok2, hA2, hl2, hx2, hr2⟩, H⟩
  replace H : Hp _ _ _ _ _ := H
  have hf2 := hr1.ext hA1.inv hA2.inv hx2
  have hxl := id_lt hok2 hr2.there
  refine cut_rule (γ := Value × Ar) _ rfl (fun _ => [(9, .int .i64 1), (10, .int .i64 0)]) (fun (sv3, A3) w' => (ArOk 20000 A3 ∧ BInv (natsI [0, 1]).length A3 ∧ Rep A3 f (FnS (natsI [0, 1]) 10)) ∧ Hp w (fun _ => False) w' [arR ga r sv3 20000 A3, blk g5 24 (sc 10)] (bdM g ga co B (natsI [0, 1]) ++ [])) ?_ ?_
  · refine call_fn (c116 ho8 f x (by omega) (by omega) _ hA2 hok2 H.bdAt') ?_
    rintro _ w5 ⟨A3, sv3, y, e, rfl, hm, hok3, ht⟩
    have hm := hm.made hf2.there (t1 _) hr2.there
    obtain ⟨rfl, hr, hl⟩ := made_small hm (iteF_low hA2 _ _ _) ho8 hl2 (by decide)
    have hy : y = 1 := by
      refine rep_canon hm.inv hr (rep_one.congr fun a => ?_)
      unfold iteF
      rw [sem_none (nd_end (.inr rfl)), hr2.says]
      unfold iteF
      rw [sem_none (nd_end (.inr rfl)), hf2.says, hr1.says]
      cases FnS (natsI [0, 1]) 10 a <;> rfl
    subst hy
    exact ⟨(sv3, A3), ⟨rfl, rfl, trivial⟩, ⟨hok3, hm.inv, hf2.ext hA2.inv hm.inv.inv hm.ext⟩, H.turnBy 0 rfl ht⟩
  clear H
  rintro ⟨sv3, A3⟩ u w5 ⟨⟨hok3, hA3, hr3⟩, H⟩
  replace H : Hp _ _ _ _ _ := H
  iterate 6 refine cond_yes rfl ?_
  refine cond_yes (decide_eq_true (by assumption)) ?_
  refine H.loadAll 1 rfl agg24 size24 ?_
  refine cond_yes (decide_eq_true (by assumption)) ?_
  have hsz : sizeS (natsI [0, 1]) 10 = 1 := by decide +kernel
  have hc := c111 (n := (natsI [0, 1]).length) (c := co) (B := B) hok3 f (by omega) w5 (H.ro 0 rfl) (H.get 0 rfl)
  refine build24_10 ?_
  refine cond_yes (decide_eq_true (by assumption)) ?_
  refine bin_eql24 (by first | assumption | decide) (by first | assumption | decide) ?_
  refine cond_yes (decide_eq_true (by assumption)) ?_
  iterate 15 refine cond_yes rfl ?_
  rw [reach_size ho hA3 hr3, hsz] at hc
  refine call_fn hc ?_
  rintro _ w6 ⟨rfl, hk⟩
  replace H := H.same hk
  clear hk
  iterate 2 refine cond_yes rfl ?_
  exact ⟨rfl, H.keeps⟩
end Go.Proofs.Ytjebpngdinbckaa
end

section
/- Law 21. -/
namespace Go.Proofs.Ytjebpngdinbckaa
open Go.Dk
attribute [local irreducible] IntKind.wrap

theorem less_all {s n : Nat} (hs : s < 2 ^ 256) (h : lessN s (allN n) = 0) : ∀ p, s.testBit p = true → p < 2 ^ n := fun p hp => by
  have h1 := (lessN_zero (b := allN n) hs).1 (by rw [h]; rfl) p
  have hp8 : p < 256 := by
    rcases Nat.lt_or_ge p 256 with h | h
    · exact h
    · rw [testBit_hi hs h] at hp; cases hp
  have h2 := h1 hp8
  unfold allN at h2
  rw [testBit_setOf, decide_eq_true hp8, Bool.true_and] at h2
  refine Classical.byContradiction fun hn => h2 ⟨hp, decide_eq_false hn⟩
theorem set_of {o : List Nat} (ho : OrdO o) {A : Ar} {f : Int} {s : Nat} (hs : s < 2 ^ 256) (hr : Rep A f (FnS o s)) (h : lessN s (allN o.length) = 0) : setD o A f = s :=
  setD_rep ho hr hs (less_all hs h) fun _ hp => FnS_asg ho s hp
/-- The order as it is read. -/
theorem ord_sl {ks : List Int} {B : Option Addr} {c : Nat} {w : World} (hord : OrdI ks) (hs : Sl w (.slice B ks.length c) 1 ks.length (intsI ks)) : Sl w (.slice B (natsI ks).length c) 1 (natsI ks).length (intsN (natsI ks)) := by
  rw [natsI_length, intsN_nats fun x hx => (hord.rng x hx).1]
  exact hs
theorem ent21 : enters Try.prog 21 = true := by kernel_rfl
theorem law21_m (ks : List Int) (B : Option Addr) (c : Nat) (s : Nat) (hs : s < 2 ^ 256) (w : World) (hl : ks.length ≤ 9223372036854775807) (hS : Sl w (.slice B ks.length c) 1 ks.length (intsI ks)) :
    Fun Try.prog 21 [.slice B ks.length c, sv s] w fun v w' => v = .bool true ∧ Same w w' := by
  refine fun_of_W (N := 79) Try.func21 ent21 rfl rfl rfl (by simp) ?_
  have H := Hp.start0 w
  refine cut_rule (γ := Nat) _ rfl (fun g => [(3, .pointer (some ⟨g, 0, none⟩))]) (fun g w' => Hp w (fun _ => False) w' [blk g 24 (sc s)] []) ?_ ?_
  · refine H.box 24 (sv s) (cs := sc s) rfl ?_
    clear H
    intro g1 w1 H
    exact ⟨g1, ⟨rfl, trivial⟩, H⟩
  clear H
  rintro g3 u w1 H
  replace H : Hp _ _ _ _ _ := H
  refine cut_rule (γ := Unit) _ rfl (fun _ => []) (fun _ w' => ks.length ≤ 20 ∧ Hp w (fun _ => False) w' [blk g3 24 (sc s)] []) ?_ ?_
  · refine len_sl Try.underlying32 ?_
    refine cond_dec (fun h4 => ?_) (fun h4 => ?_)
    · refine call_fn (c106 _) ?_
      rintro _ w5 ⟨rfl, hk⟩
      replace H := H.same hk
      clear hk
      exact ⟨rfl, H.keeps⟩
    · exact ⟨(), trivial, by omega, H⟩
  clear H
  rintro ⟨⟩ u w2 ⟨h20, H⟩
  replace H : Hp _ _ _ _ _ := H
  refine call_fn (c107 ks B c _ hl (hS.same H.keeps)) ?_
  rintro _ w3 (⟨hno, rfl, hk⟩ | ⟨hord, g, ga, r, co, B', rfl, hn⟩)
  · replace H := H.same hk
    clear hk
    refine bin_eql123z ?_
    iterate 5 refine cond_yes rfl ?_
    refine call_fn (c106 _) ?_
    rintro _ w10 ⟨rfl, hk⟩
    replace H := H.same hk
    clear hk
    refine cond_yes rfl ?_
    exact ⟨rfl, H.keeps⟩
  · replace H := ((H.addNew hn).bdOpen.takeN 2)
    have ho : OrdO (natsI ks) := hord.nats
    have ho8 : (natsI ks).length ≤ 8 := ho.le
    have hkl : (natsI ks).length = ks.length := natsI_length ks
    have hS' := ord_sl hord hS
    have hA0 : BInv (natsI ks).length [] := BInv.nil _
    have hok0 : ArOk 20000 [] := ok_start (by decide) (by decide)
    have hc109 := fun w1 => c109' s (natsI ks).length hs ho8 w1
    rw [hkl] at hc109
    refine bin_eql123 ?_
    iterate 4 refine cond_no rfl ?_
    refine H.loadAll 1 rfl agg24 size24 ?_
    refine call_fn (c108 ho ho8 hs _ hA0 hok0 H.bdAt') ?_
    rintro _ w4 ⟨A1, sv1, f, e, rfl, (⟨hz, rfl, rfl, rfl⟩ | ⟨hz, hm⟩), hok1, ht⟩
    · replace H := H.turnBy 0 rfl ht
      rw [hkl] at hz
      have hzb : (lessN s (allN ks.length) == 0) = false := by simpa using hz
      rw [hzb] at hc109
      refine H.loadAll 1 rfl agg24 size24 ?_
      refine len_sl Try.underlying32 ?_
      refine call_fn (hc109 _) ?_
      rintro _ w7 ⟨rfl, hk⟩
      replace H := H.same hk
      clear hk
      iterate 5 refine cond_yes rfl ?_
      refine call_fn (c106 _) ?_
      rintro _ w13 ⟨rfl, hk⟩
      replace H := H.same hk
      clear hk
      refine cond_yes rfl ?_
      exact ⟨rfl, H.keeps⟩
    · obtain ⟨rfl, hr, hlive⟩ := made_small hm (FnS_low ho s) ho8 (q := 0) (by decide) (by decide)
      replace H := H.turnBy 0 rfl ht
      have hfl := id_lt hok1 hr.there
      have hset := set_of ho hs hr hz
      have hrs := reach_size ho hm.inv hr
      rw [hkl] at hz
      have hzb : (lessN s (allN ks.length) == 0) = true := by simpa using hz
      rw [hzb] at hc109
      have hc := fun w1 hbd => c110b (w := w1) ho f (by omega) hm.inv hok1 (hbd : BdAt w1 g ga r co B' (natsI ks) sv1 20000 A1)
      rw [if_pos hr.there, hset] at hc
      have hc1 := fun w1 hb h => c111 (n := (natsI ks).length) (c := co) (B := B') (g := g) (ga := ga) (r := r) (sv0 := sv1) hok1 f (by omega) w1 hb h
      rw [hrs] at hc1
      have hc2 := fun w1 hO => c112 ho s B c w1 hO
      rw [hkl] at hc2 hS'
      refine H.loadAll 1 rfl agg24 size24 ?_
      refine len_sl Try.underlying32 ?_
      refine call_fn (hc109 _) ?_
      rintro _ w7 ⟨rfl, hk⟩
      replace H := H.same hk
      clear hk
      refine cond_no rfl ?_
      refine call_fn (hc _ H.bdAt') ?_
      rintro _ w9 ⟨rfl, hk⟩
      replace H := H.same hk
      clear hk
      refine H.alloc 24 (cs := sc 0) zero24 sc_zero ?_
      clear H
      intro g10 w10 H
      refine H.storeSet 0 rfl ?_
      clear H
      intro w11 H
      refine H.draw fol (by kernel_rfl) ?_
      clear H
      intro w12 H
      refine cond_yes rfl ?_
      refine quiet _ (fun w H => H.loadAll 0 rfl agg24 size24 ⟨rfl, rfl⟩) ?_
      refine cond_yes rfl ?_
      refine quiet _ (fun w H => H.loadAll 2 rfl agg24 size24 ⟨rfl, rfl⟩) ?_
      refine cond_yes rfl ?_
      refine quiet _ (fun w H => bin_eql24 (by first | assumption | decide) (by first | assumption | decide) ⟨rfl, rfl⟩) ?_
      refine cond_yes rfl ?_
      iterate 3 refine cond_yes (beq_self_eq_true _) ?_
      iterate 3 refine cond_yes rfl ?_
      refine call_fn (hc1 _ (H.ro 0 rfl) (H.get 1 rfl)) ?_
      rintro _ w27 ⟨rfl, hk⟩
      replace H := H.same hk
      refine ⟨.inl H, ?_⟩
      refine cond_yes rfl ?_
      refine quiet _ (fun w H => H.loadAll 2 rfl agg24 size24 ⟨rfl, rfl⟩) ?_
      iterate 2 refine cond_yes rfl ?_
      refine call_fn (hc2 _ (hS'.same H.keeps)) ?_
      rintro _ w33 ⟨rfl, hk⟩
      replace H := H.same hk
      refine ⟨.inl H, ?_⟩
      iterate 2 refine cond_yes rfl ?_
      refine cond_yes (beq_self_eq_true _) ?_
      refine call_fn (c106 _) ?_
      rintro _ w38 ⟨rfl, hk⟩
      replace H := H.same hk
      clear hk
      refine ⟨.inl H, ?_⟩
      refine cond_yes (beq_self_eq_true _) ?_
      exact ⟨rfl, H.keeps⟩
theorem law21 (v : Value) (s : Nat) (hs : s < 2 ^ 256) (w : World) {ks : List Int} (hk : IntsAt w v ks) : Fun Try.prog 21 [v, sv s] w fun v w' => v = .bool true ∧ Same w w' := by
  obtain ⟨B, c, rfl, hl, _, hS⟩ := hk
  exact law21_m ks B c s hs w hl hS
end Go.Proofs.Ytjebpngdinbckaa
end

section
/- Law 22. -/
namespace Go.Proofs.Ytjebpngdinbckaa
open Go.Dk
attribute [local irreducible] IntKind.wrap

theorem and_set {o : List Nat} (ho : OrdO o) {A : Ar} {x : Int} {r s : Nat} (hr : r < 2 ^ 256) (hrz : lessN r (allN o.length) = 0) (h : Rep A x fun a => FnS o r a && FnS o s a) : setD o A x = r &&& s :=
  setD_rep ho h (Nat.lt_of_le_of_lt Nat.and_le_left hr) (fun p hp => by
    rw [Nat.testBit_and, Bool.and_eq_true] at hp
    exact less_all hr hrz p hp.1) (fun p hp => by rw [FnS_asg ho r hp, FnS_asg ho s hp, Nat.testBit_and])
theorem ite_and {A : Ar} {f h : Int} {F G : Dk.Fn} (hf : Rep A f F) (hh : Rep A h G) : iteF A f h 0 = fun a => F a && G a := by
  funext a
  unfold iteF
  rw [hf.says, hh.says, sem_none (nd_end (.inl rfl))]
  cases F a <;> rfl
theorem end_there (A : Ar) : 0 ≤ lvlA A 0 := by rw [lvl_end (.inl rfl)]; decide
theorem one_there (A : Ar) : 0 ≤ lvlA A 1 := by rw [lvl_end (.inr rfl)]; decide
theorem ent22 : enters Try.prog 22 = true := by kernel_rfl
theorem law22_m (ks : List Int) (B : Option Addr) (c : Nat) (r s : Nat) (hr : r < 2 ^ 256) (hs : s < 2 ^ 256) (little : Nat) (hlit : little < 256) (w : World) (hl : ks.length ≤ 9223372036854775807) (hS : Sl w (.slice B ks.length c) 1 ks.length (intsI ks)) :
    Fun Try.prog 22 [.slice B ks.length c, sv r, sv s, .int .u8 (little : Int)] w fun v w' => v = .bool true ∧ Same w w' := by
  refine fun_of_W (N := 153) Try.func22 ent22 rfl rfl rfl (by simp) ?_
  have H := Hp.start0 w
  refine cut_rule (γ := Nat × Nat) _ rfl (fun (g5, g6) => [(5, .pointer (some ⟨g5, 0, none⟩)), (6, .pointer (some ⟨g6, 0, none⟩))]) (fun (g5, g6) w' => Hp w (fun _ => False) w' [blk g6 24 (sc s), blk g5 24 (sc r)] []) ?_ ?_
  · refine H.box 24 (sv r) (cs := sc r) rfl ?_
    clear H
    intro g5 w1 H
    refine H.box 24 (sv s) (cs := sc s) rfl ?_
    clear H
    intro g6 w1 H
    exact ⟨(g5, g6), ⟨rfl, rfl, trivial⟩, H⟩
  clear H
  rintro ⟨g5, g6⟩ u w1 H
  replace H : Hp _ _ _ _ _ := H
  refine cut_rule (γ := Unit) _ rfl (fun _ => []) (fun _ w' => (OrdI ks ∧ lessN r (allN ks.length) = 0 ∧ lessN s (allN ks.length) = 0) ∧ Hp w (fun _ => False) w' [blk g6 24 (sc s), blk g5 24 (sc r)] []) ?_ ?_
  · by_cases h20 : (20 : Int) < ks.length
    · refine len_sl Try.underlying32 ?_
      iterate 4 refine cond_yes (decide_eq_true (by assumption)) ?_
      iterate 13 refine cond_yes rfl ?_
      refine call_fn (c106 _) ?_
      rintro _ w23 ⟨rfl, hk⟩
      replace H := H.same hk
      clear hk
      exact ⟨rfl, H.keeps⟩
    have hc := fun w1 hs => c101 ks B c w1 hl hs
    by_cases hord : OrdI ks
    · rw [(ordB_iff ks).2 hord] at hc
      have h8 := hord.le
      have hr1 := fun w1 => c109' r ks.length hr h8 w1
      have hs1 := fun w1 => c109' s ks.length hs h8 w1
      by_cases hz : lessN r (allN ks.length) = 0
      · have hzb : (lessN r (allN ks.length) == 0) = true := by simpa using hz
        rw [hzb] at hr1
        by_cases hz2 : lessN s (allN ks.length) = 0
        · have hzb : (lessN s (allN ks.length) == 0) = true := by simpa using hz2
          rw [hzb] at hs1
          refine len_sl Try.underlying32 ?_
          iterate 2 refine cond_no (decide_eq_false (by assumption)) ?_
          refine call_fn (hc _ (hS.same H.keeps)) ?_
          rintro _ w7 ⟨rfl, hk⟩
          replace H := H.same hk
          clear hk
          iterate 2 refine cond_no (decide_eq_false (by assumption)) ?_
          refine cond_no rfl ?_
          refine H.loadAll 1 rfl agg24 size24 ?_
          iterate 2 refine cond_no rfl ?_
          refine len_sl Try.underlying32 ?_
          refine cond_no rfl ?_
          refine call_fn (hr1 _) ?_
          rintro _ w17 ⟨rfl, hk⟩
          replace H := H.same hk
          clear hk
          iterate 3 refine cond_no rfl ?_
          refine H.loadAll 0 rfl agg24 size24 ?_
          iterate 2 refine cond_no rfl ?_
          refine len_sl Try.underlying32 ?_
          refine cond_no rfl ?_
          refine call_fn (hs1 _) ?_
          rintro _ w27 ⟨rfl, hk⟩
          replace H := H.same hk
          clear hk
          iterate 3 refine cond_no rfl ?_
          exact ⟨(), trivial, ⟨hord, hz, hz2⟩, H⟩
        · have hzb : (lessN s (allN ks.length) == 0) = false := by simpa using hz2
          rw [hzb] at hs1
          refine len_sl Try.underlying32 ?_
          iterate 2 refine cond_no (decide_eq_false (by assumption)) ?_
          refine call_fn (hc _ (hS.same H.keeps)) ?_
          rintro _ w7 ⟨rfl, hk⟩
          replace H := H.same hk
          clear hk
          iterate 2 refine cond_no (decide_eq_false (by assumption)) ?_
          refine cond_no rfl ?_
          refine H.loadAll 1 rfl agg24 size24 ?_
          iterate 2 refine cond_no rfl ?_
          refine len_sl Try.underlying32 ?_
          refine cond_no rfl ?_
          refine call_fn (hr1 _) ?_
          rintro _ w17 ⟨rfl, hk⟩
          replace H := H.same hk
          clear hk
          iterate 3 refine cond_no rfl ?_
          refine H.loadAll 0 rfl agg24 size24 ?_
          iterate 2 refine cond_no rfl ?_
          refine len_sl Try.underlying32 ?_
          refine cond_no rfl ?_
          refine call_fn (hs1 _) ?_
          rintro _ w27 ⟨rfl, hk⟩
          replace H := H.same hk
          clear hk
          iterate 2 refine cond_no rfl ?_
          refine cond_yes rfl ?_
          refine call_fn (c106 _) ?_
          rintro _ w31 ⟨rfl, hk⟩
          replace H := H.same hk
          clear hk
          exact ⟨rfl, H.keeps⟩
      · have hzb : (lessN r (allN ks.length) == 0) = false := by simpa using hz
        rw [hzb] at hr1
        refine len_sl Try.underlying32 ?_
        iterate 2 refine cond_no (decide_eq_false (by assumption)) ?_
        refine call_fn (hc _ (hS.same H.keeps)) ?_
        rintro _ w7 ⟨rfl, hk⟩
        replace H := H.same hk
        clear hk
        iterate 2 refine cond_no (decide_eq_false (by assumption)) ?_
        refine cond_no rfl ?_
        refine H.loadAll 1 rfl agg24 size24 ?_
        iterate 2 refine cond_no rfl ?_
        refine len_sl Try.underlying32 ?_
        refine cond_no rfl ?_
        refine call_fn (hr1 _) ?_
        rintro _ w17 ⟨rfl, hk⟩
        replace H := H.same hk
        clear hk
        iterate 2 refine cond_no rfl ?_
        iterate 7 refine cond_yes rfl ?_
        refine call_fn (c106 _) ?_
        rintro _ w28 ⟨rfl, hk⟩
        replace H := H.same hk
        clear hk
        exact ⟨rfl, H.keeps⟩
    · have hb : orderB ks = false := by rw [Bool.eq_false_iff]; exact fun h => hord ((ordB_iff ks).1 h)
      rw [hb] at hc
      refine len_sl Try.underlying32 ?_
      iterate 2 refine cond_no (decide_eq_false (by assumption)) ?_
      refine call_fn (hc _ (hS.same H.keeps)) ?_
      rintro _ w7 ⟨rfl, hk⟩
      replace H := H.same hk
      clear hk
      iterate 2 refine cond_no (decide_eq_false (by assumption)) ?_
      iterate 13 refine cond_yes rfl ?_
      refine call_fn (c106 _) ?_
      rintro _ w24 ⟨rfl, hk⟩
      replace H := H.same hk
      clear hk
      exact ⟨rfl, H.keeps⟩
  clear H
  rintro ⟨⟩ u w2 ⟨⟨hord, hrz, hsz⟩, H⟩
  replace H : Hp _ _ _ _ _ := H
  have ho : OrdO (natsI ks) := hord.nats
  have ho8 : (natsI ks).length ≤ 8 := ho.le
  have hkl : (natsI ks).length = ks.length := natsI_length ks
  have hS' := ord_sl hord hS
  rw [← hkl] at hrz hsz
  have hA0 : BInv (natsI ks).length [] := BInv.nil _
  have hok0 : ArOk (little : Int) [] := ok_start (by omega) (by omega)
  refine cut_rule (γ := Nat × Nat × Nat × Nat × Option Addr) _ rfl (fun (g, _) => [(9, .pointer (some ⟨g, 0, none⟩)), (10, .int .i64 0)]) (fun (g, ga, q, co, B') w' => Hp w (fun _ => False) w' [arR ga q (.slice none 0 0) little [], blk g6 24 (sc s), blk g5 24 (sc r)] (bdM g ga co B' (natsI ks) ++ [])) ?_ ?_
  · refine conv_i64 (by kernel_rfl) Try.underlying3 (by omega) (by omega) ?_
    refine call_fn (c113 ks B c little _ hl (hS.same H.keeps)) ?_
    rintro _ w5 (⟨h, _⟩ | ⟨_, _, _, g, ga, q, co, B', rfl, hn⟩)
    · rcases h with h | h | h
      · exact absurd hord h
      · omega
      · omega
    · exact ⟨(g, ga, q, co, B'), ⟨rfl, rfl, trivial⟩, (H.addNew hn).bdOpen.takeN 3⟩
  clear H
  rintro ⟨g, ga, q, co, B'⟩ u w3 H
  replace H : Hp _ _ _ _ _ := H
  refine cut_rule (γ := Unit) _ rfl (fun _ => []) (fun _ w' => Hp w (fun _ => False) w' [arR ga q (.slice none 0 0) little [], blk g6 24 (sc s), blk g5 24 (sc r)] (bdM g ga co B' (natsI ks) ++ [])) ?_ ?_
  · refine bin_eql123 ?_
    iterate 4 refine cond_no rfl ?_
    exact ⟨(), trivial, H⟩
  clear H
  rintro ⟨⟩ u w4 H
  replace H : Hp _ _ _ _ _ := H
  refine cut_rule (γ := Int × Int × Value × Ar) _ rfl (fun (f, e, _) => [(11, .int .i64 f), (12, .int .i64 e)]) (fun (f, e, sv1, A1) w' => (ArOk (little : Int) A1 ∧ Made (natsI ks).length little [] A1 (FnS (natsI ks) r) f e) ∧ Hp w (fun _ => False) w' [arR ga q sv1 little A1, blk g6 24 (sc s), blk g5 24 (sc r)] (bdM g ga co B' (natsI ks) ++ [])) ?_ ?_
  · refine H.loadAll 2 rfl agg24 size24 ?_
    refine call_fn (c108 ho ho8 hr _ hA0 hok0 H.bdAt') ?_
    rintro _ w5 ⟨A1, sv1, f, e, rfl, (⟨h, _⟩ | ⟨_, hm⟩), hok1, ht⟩
    · exact absurd hrz h
    · exact ⟨(f, e, sv1, A1), ⟨rfl, rfl, trivial⟩, ⟨hok1, hm⟩, H.turnBy 0 rfl ht⟩
  clear H hok0
  rintro ⟨f, e, sv1, A1⟩ u w5 ⟨⟨hok1, hm1⟩, H⟩
  replace H : Hp _ _ _ _ _ := H
  refine cut_rule (γ := Unit) _ rfl (fun _ => []) (fun _ w' => e = 0 ∧ Hp w (fun _ => False) w' [arR ga q sv1 little A1, blk g6 24 (sc s), blk g5 24 (sc r)] (bdM g ga co B' (natsI ks) ++ [])) ?_ ?_
  · refine cond_bne (fun he => ?_) (fun he => ?_)
    · obtain ⟨rfl, rfl, hlt⟩ := made_lack ho hm1 he
      have hc := fun w1 hO => c112 ho r B c w1 hO
      rw [hkl] at hc hS'
      iterate 4 refine cond_yes rfl ?_
      refine H.loadAll 2 rfl agg24 size24 ?_
      iterate 2 refine cond_yes rfl ?_
      refine call_fn (hc _ (hS'.same H.keeps)) ?_
      rintro _ w14 ⟨rfl, hk⟩
      replace H := H.same hk
      clear hk
      iterate 2 refine cond_yes rfl ?_
      refine conv_i64 (by kernel_rfl) Try.underlying3 (by omega) (by omega) ?_
      iterate 2 refine cond_yes rfl ?_
      refine cond_yes (decide_eq_true (by assumption)) ?_
      refine call_fn (c106 _) ?_
      rintro _ w21 ⟨rfl, hk⟩
      replace H := H.same hk
      clear hk
      refine cond_yes (decide_eq_true (by assumption)) ?_
      exact ⟨rfl, H.keeps⟩
    · exact ⟨(), trivial, he, H⟩
  clear H
  rintro ⟨⟩ u w6 ⟨rfl, H⟩
  replace H : Hp _ _ _ _ _ := H
  have hrep1 := hm1.ok
  refine cut_rule (γ := Int × Int × Value × Ar) _ rfl (fun (h, i, _) => [(13, .int .i64 h), (14, .int .i64 i)]) (fun (h, i, sv2, A2) w' => (ArOk (little : Int) A2 ∧ Made (natsI ks).length little A1 A2 (FnS (natsI ks) s) h i) ∧ Hp w (fun _ => False) w' [arR ga q sv2 little A2, blk g6 24 (sc s), blk g5 24 (sc r)] (bdM g ga co B' (natsI ks) ++ [])) ?_ ?_
  · refine H.loadAll 1 rfl agg24 size24 ?_
    refine call_fn (c108 ho ho8 hs _ hm1.inv hok1 H.bdAt') ?_
    rintro _ w5 ⟨A2, sv2, h, i, rfl, (⟨h, _⟩ | ⟨_, hm⟩), hok2, ht⟩
    · exact absurd hsz h
    · exact ⟨(h, i, sv2, A2), ⟨rfl, rfl, trivial⟩, ⟨hok2, hm⟩, H.turnBy 0 rfl ht⟩
  clear H
  rintro ⟨h, i, sv2, A2⟩ u w7 ⟨⟨hok2, hm2⟩, H⟩
  replace H : Hp _ _ _ _ _ := H
  have hrep2 := hrep1.ext hm1.inv.inv hm2.inv.inv hm2.ext
  have hfl := id_lt hok2 hrep2.there
  have hhl := made_id hm2 hok2
  have th : 0 ≤ lvlA A2 h := by
    rcases hm2.res with ⟨_, h⟩ | ⟨_, rfl, _⟩
    · exact h.there
    · exact end_there A2
  refine cut_rule (γ := Int × Int × Value × Ar) _ rfl (fun (x, k, _) => [(15, .int .i64 x), (16, .int .i64 k)]) (fun (x, k, sv3, A3) w' => (ArOk (little : Int) A3 ∧ Made (natsI ks).length little A2 A3 (iteF A2 f h 0) x k) ∧ Hp w (fun _ => False) w' [arR ga q sv3 little A3, blk g6 24 (sc s), blk g5 24 (sc r)] (bdM g ga co B' (natsI ks) ++ [])) ?_ ?_
  · refine call_fn (c114 ho8 f h (by omega) (by omega) _ hm2.inv hok2 H.bdAt') ?_
    rintro _ w5 ⟨A3, sv3, x, k, rfl, hm, hok3, ht⟩
    exact ⟨(x, k, sv3, A3), ⟨rfl, rfl, trivial⟩, ⟨hok3, hm.made hrep2.there th (end_there A2)⟩, H.turnBy 0 rfl ht⟩
  clear H
  rintro ⟨x, k, sv3, A3⟩ u w8 ⟨⟨hok3, hm3⟩, H⟩
  replace H : Hp _ _ _ _ _ := H
  have hrep3 := hrep2.ext hm2.inv.inv hm3.inv.inv hm3.ext
  refine cut_rule (γ := Nat) _ rfl (fun g17 => [(17, .pointer (some ⟨g17, 0, none⟩))]) (fun g17 w' => Hp w (fun _ => False) w' [arR ga q sv3 little A3, blk g17 24 (sc r), blk g6 24 (sc s), blk g5 24 (sc r)] (bdM g ga co B' (natsI ks) ++ [])) ?_ ?_
  · have hc := c110b ho f (by omega) _ hm3.inv hok3 H.bdAt'
    rw [if_pos hrep3.there, set_of ho hr hrep3 hrz] at hc
    refine call_fn hc ?_
    rintro _ w9 ⟨rfl, hk⟩
    replace H := H.same hk
    clear hk
    refine H.alloc 24 (cs := sc 0) zero24 sc_zero ?_
    clear H
    intro g5 w4 H
    refine H.storeSet 0 rfl ?_
    clear H
    intro w5 H
    exact ⟨g5, ⟨rfl, trivial⟩, H.front 1 rfl⟩
  clear H
  rintro g17 u w9 H
  replace H : Hp _ _ _ _ _ := H
  have hi : i = 0 ∨ (i = 5 ∧ h = 0) := by
    rcases hm2.res with ⟨h, _⟩ | ⟨h1, h2, _⟩
    · exact .inl h
    · exact .inr ⟨h1, h2⟩
  have hk : k = 0 ∨ (k = 5 ∧ x = 0) := by
    rcases hm3.res with ⟨h, _⟩ | ⟨h1, h2, _⟩
    · exact .inl h
    · exact .inr ⟨h1, h2⟩
  refine cut_rule (γ := Unit) _ rfl (fun _ => []) (fun _ w' => Hp w (fun _ => False) w' [arR ga q sv3 little A3, blk g17 24 (sc r), blk g6 24 (sc s), blk g5 24 (sc r)] (bdM g ga co B' (natsI ks) ++ [])) ?_ ?_
  · rcases hi with rfl | ⟨rfl, rfl⟩ <;> rcases hk with rfl | ⟨rfl, rfl⟩
    · refine H.loadAll 1 rfl agg24 size24 ?_
      refine H.loadAll 3 rfl agg24 size24 ?_
      refine bin_neq24 (by first | assumption | decide) (by first | assumption | decide) ?_
      iterate 3 refine cond_no (bne_eq_false_iff_eq.2 (by omega)) ?_
      iterate 2 refine cond_no rfl ?_
      refine cond_no (bne_eq_false_iff_eq.2 (by omega)) ?_
      refine cond_no rfl ?_
      refine cond_no (bne_eq_false_iff_eq.2 (by omega)) ?_
      iterate 9 refine cond_no rfl ?_
      exact ⟨(), trivial, H⟩
    · refine H.loadAll 1 rfl agg24 size24 ?_
      refine H.loadAll 3 rfl agg24 size24 ?_
      refine bin_neq24 (by first | assumption | decide) (by first | assumption | decide) ?_
      iterate 3 refine cond_no (bne_eq_false_iff_eq.2 (by omega)) ?_
      iterate 2 refine cond_no rfl ?_
      refine cond_no (bne_eq_false_iff_eq.2 (by omega)) ?_
      refine cond_no rfl ?_
      refine cond_no (bne_eq_false_iff_eq.2 (by omega)) ?_
      iterate 3 refine cond_no rfl ?_
      iterate 2 refine cond_yes rfl ?_
      refine cond_no rfl ?_
      refine cond_yes rfl ?_
      iterate 2 refine cond_no rfl ?_
      exact ⟨(), trivial, H⟩
    · refine H.loadAll 1 rfl agg24 size24 ?_
      refine H.loadAll 3 rfl agg24 size24 ?_
      refine bin_neq24 (by first | assumption | decide) (by first | assumption | decide) ?_
      iterate 3 refine cond_no (bne_eq_false_iff_eq.2 (by omega)) ?_
      iterate 2 refine cond_yes rfl ?_
      refine cond_no (bne_eq_false_iff_eq.2 (by omega)) ?_
      refine cond_yes rfl ?_
      refine cond_no (bne_eq_false_iff_eq.2 (by omega)) ?_
      iterate 9 refine cond_no rfl ?_
      exact ⟨(), trivial, H⟩
    · refine H.loadAll 1 rfl agg24 size24 ?_
      refine H.loadAll 3 rfl agg24 size24 ?_
      refine bin_neq24 (by first | assumption | decide) (by first | assumption | decide) ?_
      iterate 3 refine cond_no (bne_eq_false_iff_eq.2 (by omega)) ?_
      iterate 2 refine cond_yes rfl ?_
      refine cond_no (bne_eq_false_iff_eq.2 (by omega)) ?_
      refine cond_yes rfl ?_
      refine cond_no (bne_eq_false_iff_eq.2 (by omega)) ?_
      iterate 3 refine cond_no rfl ?_
      iterate 2 refine cond_yes rfl ?_
      refine cond_no rfl ?_
      refine cond_yes rfl ?_
      iterate 2 refine cond_no rfl ?_
      exact ⟨(), trivial, H⟩
  clear H
  rintro ⟨⟩ u w10 H
  replace H : Hp _ _ _ _ _ := H
  refine cut_rule (γ := Unit) _ rfl (fun _ => []) (fun _ w' => (i = 0 ∧ k = 0) ∧ Hp w (fun _ => False) w' [arR ga q sv3 little A3, blk g17 24 (sc r), blk g6 24 (sc s), blk g5 24 (sc r)] (bdM g ga co B' (natsI ks) ++ [])) ?_ ?_
  · rcases hi with rfl | ⟨rfl, rfl⟩ <;> rcases hk with rfl | ⟨rfl, rfl⟩
    · iterate 4 refine cond_no rfl ?_
      exact ⟨(), trivial, ⟨rfl, rfl⟩, H⟩
    · iterate 3 refine cond_no rfl ?_
      refine cond_yes rfl ?_
      iterate 6 refine cond_no rfl ?_
      refine cond_yes rfl ?_
      refine call_fn (c106 _) ?_
      rintro _ w23 ⟨rfl, hk⟩
      replace H := H.same hk
      clear hk
      refine cond_yes rfl ?_
      exact ⟨rfl, H.keeps⟩
    · iterate 11 refine cond_yes rfl ?_
      refine call_fn (c106 _) ?_
      rintro _ w23 ⟨rfl, hk⟩
      replace H := H.same hk
      clear hk
      refine cond_yes rfl ?_
      exact ⟨rfl, H.keeps⟩
    · iterate 11 refine cond_yes rfl ?_
      refine call_fn (c106 _) ?_
      rintro _ w23 ⟨rfl, hk⟩
      replace H := H.same hk
      clear hk
      refine cond_yes rfl ?_
      exact ⟨rfl, H.keeps⟩
  clear H
  rintro ⟨⟩ u w10 ⟨⟨rfl, rfl⟩, H⟩
  replace H : Hp _ _ _ _ _ := H
  have hrx := hm3.ok
  rw [ite_and hrep2 hm2.ok] at hrx
  have hset := and_set ho hr hrz hrx
  have hxl := id_lt hok3 hrx.there
  refine cut_rule (γ := Nat) _ rfl (fun g19 => [(19, .pointer (some ⟨g19, 0, none⟩))]) (fun g19 w' => Hp w (fun _ => False) w' [blk g19 24 (sc (r &&& s)), blk g6 24 (sc s), blk g5 24 (sc r)] (bdM g ga co B' (natsI ks) ++ [])) ?_ ?_
  · have hc := c110b ho x (by omega) _ hm3.inv hok3 H.bdAt'
    rw [if_pos hrx.there, hset] at hc
    refine call_fn hc ?_
    rintro _ w9 ⟨rfl, hk⟩
    replace H := H.same hk
    clear hk
    refine H.alloc 24 (cs := sc 0) zero24 sc_zero ?_
    clear H
    intro g5 w4 H
    refine H.storeSet 0 rfl ?_
    clear H
    intro w5 H
    exact ⟨g5, ⟨rfl, trivial⟩, (((H.front 1 rfl).forget.front 1 rfl).forget.front 0 rfl)⟩
  clear H
  rintro g19 u w11 H
  replace H : Hp _ _ _ _ _ := H
  refine H.draw fol (by kernel_rfl) ?_
  clear H
  intro w12 H
  refine quiet _ (fun w H => H.loadAll 0 rfl agg24 size24 ⟨rfl, rfl⟩) ?_
  refine quiet _ (fun w H => H.loadAll 2 rfl agg24 size24 ⟨rfl, rfl⟩) ?_
  refine quiet _ (fun w H => H.loadAll 1 rfl agg24 size24 ⟨rfl, rfl⟩) ?_
  refine call_fn (c51 _ _ _) ?_
  rintro _ w16 ⟨rfl, hk⟩
  replace H := H.same hk
  clear hk
  refine ⟨.inl H, ?_⟩
  have hand : r &&& s < 2 ^ 256 := Nat.lt_of_le_of_lt Nat.and_le_left hr
  refine quiet _ (fun w H => bin_eql24 (by first | assumption | decide) (by first | assumption | decide) ⟨rfl, rfl⟩) ?_
  refine cond_yes (beq_self_eq_true _) ?_
  refine call_fn (c106 _) ?_
  rintro _ w15 ⟨rfl, hk⟩
  replace H := H.same hk
  clear hk
  refine ⟨.inl H, ?_⟩
  refine cond_yes (beq_self_eq_true _) ?_
  exact ⟨rfl, H.keeps⟩
theorem law22 (v : Value) (r : Nat) (hr : r < 2 ^ 256) (s : Nat) (hs : s < 2 ^ 256) (little : Nat) (hlit : little < 256) (w : World) {ks : List Int} (hk : IntsAt w v ks) : Fun Try.prog 22 [v, sv r, sv s, .int .u8 (little : Int)] w fun v w' => v = .bool true ∧ Same w w' := by
  obtain ⟨B, c, rfl, hl, _, hS⟩ := hk
  exact law22_m ks B c r s hr hs little hlit w hl hS
end Go.Proofs.Ytjebpngdinbckaa
end

section
/- Law 23. -/
namespace Go.Proofs.Ytjebpngdinbckaa
open Go.Dk
attribute [local irreducible] IntKind.wrap

theorem live_sweep {A : Ar} (h : ArInv A) (ids : List Int) : liveA (sweepA A ids) ≤ liveA A := by
  rw [live_range A A.length (Nat.le_refl _), live_range (sweepA A ids) A.length (by unfold sweepA; rw [sweepTo_length]; exact Nat.le_refl _), ← List.countP_eq_length_filter, ← List.countP_eq_length_filter]
  refine List.countP_mono_left fun i _ hi => ?_
  obtain ⟨d, hd⟩ := Option.isSome_iff_exists.1 hi
  rw [((slot_sweep h ids i d).1 hd).1]; rfl
theorem binv_sweep {n : Nat} {A : Ar} (h : BInv n A) (ids : List Int) : BInv n (sweepA A ids) :=
  ⟨inv_sweep h.inv ids, fun i d hs => h.lt i d ((slot_sweep h.inv ids i d).1 hs).1, fun i d hs => h.ne i d ((slot_sweep h.inv ids i d).1 hs).1⟩
theorem sweep_sem {A : Ar} (h : ArInv A) (ids : List Int) (a : Asg) : ∀ id, (∀ x, Rch A id x → ∃ k ∈ ids, Rch A k x) → sem (sweepA A ids) id a = sem A id a := by
  refine lvl_induct h (fun id hd _ => ?_) (fun id d hd ih1 ih2 hr => ?_)
  · have : ndA (sweepA A ids) id = none := by
      cases hn : ndA (sweepA A ids) id with
      | none => rfl
      | some d =>
        obtain ⟨i, rfl, hs⟩ := nd_place hn
        have := ((slot_sweep h ids i d).1 hs).1
        rw [nd_slot, this] at hd; cases hd
    rw [sem_none hd, sem_none this]
  · obtain ⟨i, rfl, hs⟩ := nd_place hd
    have hi := fun x => rch_iff (x := x) hs
    have hk : slot (sweepA A ids) i = some d := (slot_sweep h ids i d).2 ⟨hs, hr i ((hi i).2 (.inl rfl))⟩
    have hd' : ndA (sweepA A ids) ((i : Int) + 2) = some d := by rw [nd_slot]; exact hk
    rw [sem_node h hd, sem_node (inv_sweep h ids) hd']
    split
    · exact ih2 fun x hx => hr x ((hi x).2 (.inr (.inr hx)))
    · exact ih1 fun x hx => hr x ((hi x).2 (.inr (.inl hx)))
theorem sweep_rep {A : Ar} (h : ArInv A) {ids : List Int} {f : Int} (hf : f ∈ ids) {F : Dk.Fn} (hr : Rep A f F) : Rep (sweepA A ids) f F := by
  refine ⟨?_, fun a => by rw [sweep_sem h ids a f fun x hx => ⟨f, hf, hx⟩]; exact hr.says a⟩
  rcases lvlA_node hr.there with rfl | rfl | ⟨i, d, rfl, hs, _⟩
  · exact end_there _
  · exact one_there _
  · have hk : slot (sweepA A ids) i = some d := (slot_sweep h ids i d).2 ⟨hs, _, hf, (rch_iff hs).2 (.inl rfl)⟩
    rw [lvlA_slot hk]; omega
theorem rep_or {A : Ar} {f g : Int} {F G : Dk.Fn} (hf : Rep A f F) (hg : Rep A g G) : iteF A f 1 g = fun a => F a || G a := by
  funext a
  unfold iteF
  rw [hf.says, hg.says, sem_none (nd_end (.inr rfl))]
  cases F a <;> rfl
theorem FnS_eq {o : List Nat} (ho : OrdO o) {r s : Nat} (hr : r < 2 ^ 256) (hs : s < 2 ^ 256) (hrz : lessN r (allN o.length) = 0) (hsz : lessN s (allN o.length) = 0) : (∀ a, FnS o r a = FnS o s a) ↔ r = s :=
  ⟨FnS_inj ho hr hs (less_all hr hrz) (less_all hs hsz), fun h a => by rw [h]⟩
theorem or_and {F G : Dk.Fn} : (∀ a, (F a || G a) = (F a && G a)) ↔ ∀ a, F a = G a := by
  constructor
  · intro h a
    have := h a
    cases hF : F a <;> cases hG : G a <;> rw [hF, hG] at this <;> first | rfl | (exact absurd this (by decide))
  · intro h a
    rw [h a]
    cases G a <;> rfl
theorem blk_sl {w : World} {g : Nat} {t : TypeId} {cs : Array Value} {n : Nat} (h : (blk g t cs).ok w) (hn : cs.size = n) (hm : n ≤ maxLen) : (sl (fun x => x = g) (.slice (some ⟨g, 0, none⟩) n n) 1 n cs.toList).ok w := by
  subst hn
  have h2 : (own t 1 (.slice (some ⟨g, 0, none⟩) cs.size cs.size) cs.size cs.toList).ok w := ⟨by simp, .inr ⟨g, cs.size, cs, rfl, Nat.zero_le _, h, Nat.le_refl _, hm, by simp, by rw [Nat.mul_one, ← Array.length_toList]; exact List.take_length⟩⟩
  exact sl.mono (own_sl h2) fun x hx => by
    have hx : some g = some x := hx
    injection hx with hx
    exact hx.symm
theorem ent23 : enters Try.prog 23 = true := by kernel_rfl
theorem law23_m (ks : List Int) (B : Option Addr) (c : Nat) (r s t : Nat) (hr : r < 2 ^ 256) (hs : s < 2 ^ 256) (ht : t < 2 ^ 256) (w : World) (hl : ks.length ≤ 9223372036854775807) (hS : Sl w (.slice B ks.length c) 1 ks.length (intsI ks)) :
    Fun Try.prog 23 [.slice B ks.length c, sv r, sv s, sv t] w fun v w' => v = .bool true ∧ Same w w' := by
  refine fun_of_W (N := 137) Try.func23 ent23 rfl rfl rfl (by simp) ?_
  have H := Hp.start0 w
  refine cut_rule (γ := Nat × Nat × Nat) _ rfl (fun (g5, g6, g7) => [(5, .pointer (some ⟨g5, 0, none⟩)), (6, .pointer (some ⟨g6, 0, none⟩)), (7, .pointer (some ⟨g7, 0, none⟩))]) (fun (g5, g6, g7) w' => Hp w (fun _ => False) w' [blk g7 24 (sc t), blk g6 24 (sc s), blk g5 24 (sc r)] []) ?_ ?_
  · refine H.box 24 (sv r) (cs := sc r) rfl ?_
    clear H
    intro g5 w1 H
    refine H.box 24 (sv s) (cs := sc s) rfl ?_
    clear H
    intro g6 w1 H
    refine H.box 24 (sv t) (cs := sc t) rfl ?_
    clear H
    intro g7 w1 H
    exact ⟨(g5, g6, g7), ⟨rfl, rfl, rfl, trivial⟩, H⟩
  clear H
  rintro ⟨g5, g6, g7⟩ u w1 H
  replace H : Hp _ _ _ _ _ := H
  refine cut_rule (γ := Unit) _ rfl (fun _ => []) (fun _ w' => ks.length ≤ 20 ∧ Hp w (fun _ => False) w' [blk g7 24 (sc t), blk g6 24 (sc s), blk g5 24 (sc r)] []) ?_ ?_
  · refine len_sl Try.underlying32 ?_
    refine cond_dec (fun h3 => ?_) (fun h3 => ?_)
    · refine call_fn (c106 _) ?_
      rintro _ w4 ⟨rfl, hk⟩
      replace H := H.same hk
      clear hk
      exact ⟨rfl, H.keeps⟩
    · exact ⟨(), trivial, by omega, H⟩
  clear H
  rintro ⟨⟩ u w2 ⟨h20, H⟩
  replace H : Hp _ _ _ _ _ := H
  refine call_fn (c107 ks B c _ hl (hS.same H.keeps)) ?_
  rintro _ w3 (⟨hno, rfl, hk⟩ | ⟨hord, g, ga, q, co, B', rfl, hn⟩)
  · replace H := H.same hk
    clear hk
    refine bin_eql123z ?_
    iterate 5 refine cond_yes rfl ?_
    refine call_fn (c106 _) ?_
    rintro _ w13 ⟨rfl, hk⟩
    replace H := H.same hk
    clear hk
    refine cond_yes rfl ?_
    exact ⟨rfl, H.keeps⟩
  replace H := (H.addNew hn).bdOpen.takeN 4
  have ho : OrdO (natsI ks) := hord.nats
  have ho8 : (natsI ks).length ≤ 8 := ho.le
  have hkl : (natsI ks).length = ks.length := natsI_length ks
  have hS' := ord_sl hord hS
  have hA0 : BInv (natsI ks).length [] := BInv.nil _
  have hok0 : ArOk 20000 [] := ok_start (by decide) (by decide)
  refine cut_rule (γ := Unit) _ rfl (fun _ => [(9, .pointer (some ⟨g, 0, none⟩))]) (fun _ w' => Hp w (fun _ => False) w' [arR ga q (.slice none 0 0) 20000 [], blk g7 24 (sc t), blk g6 24 (sc s), blk g5 24 (sc r)] (bdM g ga co B' (natsI ks) ++ [])) ?_ ?_
  · refine bin_eql123 ?_
    iterate 4 refine cond_no rfl ?_
    exact ⟨(), ⟨rfl, trivial⟩, H⟩
  clear H
  rintro ⟨⟩ u w4 H
  replace H : Hp _ _ _ _ _ := H
  refine cut_rule (γ := Unit) _ rfl (fun _ => [(11, .int .i64 ((natsI ks).length : Int))]) (fun _ w' => Hp w (fun _ => False) w' [arR ga q (.slice none 0 0) 20000 [], blk g7 24 (sc t), blk g6 24 (sc s), blk g5 24 (sc r)] (bdM g ga co B' (natsI ks) ++ [])) ?_ ?_
  · refine len_sl Try.underlying32 ?_
    rw [hkl]
    exact ⟨(), ⟨rfl, trivial⟩, H⟩
  clear H
  rintro ⟨⟩ u w5 H
  replace H : Hp _ _ _ _ _ := H
  refine cut_rule (γ := Unit) _ rfl (fun _ => []) (fun _ w' => (lessN r (allN (natsI ks).length) = 0 ∧ lessN s (allN (natsI ks).length) = 0 ∧ lessN t (allN (natsI ks).length) = 0) ∧ Hp w (fun _ => False) w' [arR ga q (.slice none 0 0) 20000 [], blk g7 24 (sc t), blk g6 24 (sc s), blk g5 24 (sc r)] (bdM g ga co B' (natsI ks) ++ [])) ?_ ?_
  · have hr1 := fun w1 => c109' r (natsI ks).length hr ho8 w1
    have hs1 := fun w1 => c109' s (natsI ks).length hs ho8 w1
    have ht1 := fun w1 => c109' t (natsI ks).length ht ho8 w1
    by_cases hz : lessN r (allN (natsI ks).length) = 0
    · rw [show (lessN r (allN (natsI ks).length) == 0) = true by simpa using hz] at hr1
      by_cases hz2 : lessN s (allN (natsI ks).length) = 0
      · rw [show (lessN s (allN (natsI ks).length) == 0) = true by simpa using hz2] at hs1
        by_cases hz3 : lessN t (allN (natsI ks).length) = 0
        · rw [show (lessN t (allN (natsI ks).length) == 0) = true by simpa using hz3] at ht1
          refine H.loadAll 3 rfl agg24 size24 ?_
          refine call_fn (hr1 _) ?_
          rintro _ w9 ⟨rfl, hk⟩
          replace H := H.same hk
          clear hk
          refine cond_no rfl ?_
          refine H.loadAll 2 rfl agg24 size24 ?_
          iterate 2 refine cond_no rfl ?_
          refine call_fn (hs1 _) ?_
          rintro _ w14 ⟨rfl, hk⟩
          replace H := H.same hk
          clear hk
          iterate 3 refine cond_no rfl ?_
          refine H.loadAll 1 rfl agg24 size24 ?_
          iterate 2 refine cond_no rfl ?_
          refine call_fn (ht1 _) ?_
          rintro _ w22 ⟨rfl, hk⟩
          replace H := H.same hk
          clear hk
          iterate 3 refine cond_no rfl ?_
          exact ⟨(), trivial, ⟨hz, hz2, hz3⟩, H⟩
        · rw [show (lessN t (allN (natsI ks).length) == 0) = false by simpa using hz3] at ht1
          refine H.loadAll 3 rfl agg24 size24 ?_
          refine call_fn (hr1 _) ?_
          rintro _ w9 ⟨rfl, hk⟩
          replace H := H.same hk
          clear hk
          refine cond_no rfl ?_
          refine H.loadAll 2 rfl agg24 size24 ?_
          iterate 2 refine cond_no rfl ?_
          refine call_fn (hs1 _) ?_
          rintro _ w14 ⟨rfl, hk⟩
          replace H := H.same hk
          clear hk
          iterate 3 refine cond_no rfl ?_
          refine H.loadAll 1 rfl agg24 size24 ?_
          iterate 2 refine cond_no rfl ?_
          refine call_fn (ht1 _) ?_
          rintro _ w22 ⟨rfl, hk⟩
          replace H := H.same hk
          clear hk
          iterate 2 refine cond_no rfl ?_
          refine cond_yes rfl ?_
          refine call_fn (c106 _) ?_
          rintro _ w26 ⟨rfl, hk⟩
          replace H := H.same hk
          clear hk
          exact ⟨rfl, H.keeps⟩
      · rw [show (lessN s (allN (natsI ks).length) == 0) = false by simpa using hz2] at hs1
        refine H.loadAll 3 rfl agg24 size24 ?_
        refine call_fn (hr1 _) ?_
        rintro _ w9 ⟨rfl, hk⟩
        replace H := H.same hk
        clear hk
        refine cond_no rfl ?_
        refine H.loadAll 2 rfl agg24 size24 ?_
        iterate 2 refine cond_no rfl ?_
        refine call_fn (hs1 _) ?_
        rintro _ w14 ⟨rfl, hk⟩
        replace H := H.same hk
        clear hk
        iterate 2 refine cond_no rfl ?_
        iterate 6 refine cond_yes rfl ?_
        refine call_fn (c106 _) ?_
        rintro _ w24 ⟨rfl, hk⟩
        replace H := H.same hk
        clear hk
        exact ⟨rfl, H.keeps⟩
    · rw [show (lessN r (allN (natsI ks).length) == 0) = false by simpa using hz] at hr1
      refine H.loadAll 3 rfl agg24 size24 ?_
      refine call_fn (hr1 _) ?_
      rintro _ w9 ⟨rfl, hk⟩
      replace H := H.same hk
      clear hk
      iterate 11 refine cond_yes rfl ?_
      refine call_fn (c106 _) ?_
      rintro _ w22 ⟨rfl, hk⟩
      replace H := H.same hk
      clear hk
      exact ⟨rfl, H.keeps⟩
  clear H
  rintro ⟨⟩ u w6 ⟨⟨hrz, hsz, htz⟩, H⟩
  replace H : Hp _ _ _ _ _ := H
  refine cut_rule (γ := Int × Value × Ar) _ rfl (fun (f, _) => [(12, .int .i64 f), (13, .int .i64 0)]) (fun (f, sv1, A1) w' => (ArOk 20000 A1 ∧ BInv (natsI ks).length A1 ∧ liveA A1 ≤ 255 ∧ Rep A1 f (FnS (natsI ks) r)) ∧ Hp w (fun _ => False) w' [arR ga q sv1 20000 A1, blk g7 24 (sc t), blk g6 24 (sc s), blk g5 24 (sc r)] (bdM g ga co B' (natsI ks) ++ [])) ?_ ?_
  · refine H.loadAll 3 rfl agg24 size24 ?_
    refine call_fn (c108 ho ho8 hr _ hA0 hok0 H.bdAt') ?_
    rintro _ w5 ⟨A1, sv1, f, e, rfl, (⟨h, _⟩ | ⟨_, hm⟩), hok1, ht⟩
    · exact absurd hrz h
    · obtain ⟨rfl, hr, hl⟩ := made_small hm (FnS_low ho _) ho8 (q := 0) (by decide) (by decide)
      exact ⟨(f, sv1, A1), ⟨rfl, rfl, trivial⟩, ⟨hok1, hm.inv, hl, hr⟩, H.turnBy 0 rfl ht⟩
  clear H hok0 hA0
  rintro ⟨f, sv1, A1⟩ u w7 ⟨⟨hok1, hA1, hl1, hr1⟩, H⟩
  replace H : Hp _ _ _ _ _ := H
  refine cut_rule (γ := Value × Ar) _ rfl (fun _ => []) (fun (sv2, A2) w' => (ArOk 20000 A2 ∧ BInv (natsI ks).length A2 ∧ liveA A2 ≤ 510 ∧ Rep A2 f (FnS (natsI ks) r)) ∧ Hp w (fun _ => False) w' [arR ga q sv2 20000 A2, blk g7 24 (sc t), blk g6 24 (sc s), blk g5 24 (sc r)] (bdM g ga co B' (natsI ks) ++ [])) ?_ ?_
  · refine H.loadAll 1 rfl agg24 size24 ?_
    refine call_fn (c108 ho ho8 ht _ hA1 hok1 H.bdAt') ?_
    rintro _ w5 ⟨A2, sv2, f2, e, rfl, (⟨h, _⟩ | ⟨_, hm⟩), hok2, ht⟩
    · exact absurd htz h
    · obtain ⟨rfl, _, hl⟩ := made_small hm (FnS_low ho _) ho8 hl1 (by decide)
      exact ⟨(sv2, A2), trivial, ⟨hok2, hm.inv, hl, hr1.ext hA1.inv hm.inv.inv hm.ext⟩, H.turnBy 0 rfl ht⟩
  clear H hok1 hA1 hl1 hr1
  rintro ⟨sv2, A2⟩ u w8 ⟨⟨hok2, hA2, hl2, hr2⟩, H⟩
  replace H : Hp _ _ _ _ _ := H
  have tf2 := id_lt hok2 hr2.there
  refine cut_rule (γ := Unit) _ rfl (fun _ => []) (fun _ w' => Hp w (fun _ => False) w' [arR ga q sv2 20000 (sweepA A2 [f]), blk g7 24 (sc t), blk g6 24 (sc s), blk g5 24 (sc r)] (bdM g ga co B' (natsI ks) ++ [])) ?_ ?_
  · refine H.buildOne T32 rfl ?_
    clear H
    intro gk w9 H
    have H2 := H.freeze
    refine call_fn (c115 (n := (natsI ks).length) (c := co) (B := B') hok2 [f] (fun k hk => by rw [List.mem_singleton] at hk; subst hk; omega) (by show 1 < 4611686018427387904; decide) (S := fun x => x = gk) _ (H2.ro 1 rfl) (H2.get 0 rfl) (H2.rdis _ (.tail _ (.head _)) _ (.head _) _ rfl) ?_ ?_ ?_) ?_
    · exact blk_sl (H.get 0 rfl) rfl (by show 1 ≤ maxLen; decide)
    · rintro x rfl; exact H2.rlt _ (.head _) _ rfl
    · rintro x rfl; exact H2.rdis _ (.head _) _ (.head _) _ rfl
    rintro _ w10 ⟨rfl, ht⟩
    exact ⟨(), trivial, (H2.turnBy 0 rfl ht).forgetRO⟩
  clear H
  rintro ⟨⟩ u w9 H
  replace H : Hp _ _ _ _ _ := H
  replace hr2 := sweep_rep hA2.inv (ids := [f]) (.head _) hr2
  replace hl2 := Nat.le_trans (live_sweep hA2.inv [f]) hl2
  replace hA2 := binv_sweep hA2 [f]
  replace hok2 := ok_sweep hok2 [f]
  generalize sweepA A2 [f] = A2 at hr2 hl2 hA2 hok2 H
  refine cut_rule (γ := Int × Value × Ar) _ rfl (fun (x, _) => [(14, .int .i64 x), (15, .int .i64 0)]) (fun (x, sv3, A3) w' => (ArOk 20000 A3 ∧ BInv (natsI ks).length A3 ∧ liveA A3 ≤ 765 ∧ Rep A3 f (FnS (natsI ks) r) ∧ Rep A3 x (FnS (natsI ks) s)) ∧ Hp w (fun _ => False) w' [arR ga q sv3 20000 A3, blk g7 24 (sc t), blk g6 24 (sc s), blk g5 24 (sc r)] (bdM g ga co B' (natsI ks) ++ [])) ?_ ?_
  · refine H.loadAll 2 rfl agg24 size24 ?_
    refine call_fn (c108 ho ho8 hs _ hA2 hok2 H.bdAt') ?_
    rintro _ w5 ⟨A3, sv3, f3, e, rfl, (⟨h, _⟩ | ⟨_, hm⟩), hok3, ht⟩
    · exact absurd hsz h
    · obtain ⟨rfl, hr3, hl⟩ := made_small hm (FnS_low ho _) ho8 hl2 (by decide)
      exact ⟨(f3, sv3, A3), ⟨rfl, rfl, trivial⟩, ⟨hok3, hm.inv, hl, hr2.ext hA2.inv hm.inv.inv hm.ext, hr3⟩, H.turnBy 0 rfl ht⟩
  clear H hok2 hA2 hl2 hr2 tf2
  rintro ⟨f3, sv3, A3⟩ u w10 ⟨⟨hok3, hA3, hl3, hr3, hs3⟩, H⟩
  replace H : Hp _ _ _ _ _ := H
  have tf := id_lt hok3 hr3.there
  have tg := id_lt hok3 hs3.there
  refine cut_rule (γ := Int × Value × Ar) _ rfl (fun (x, _) => [(16, .int .i64 x), (17, .int .i64 0)]) (fun (x, sv4, A4) w' => (ArOk 20000 A4 ∧ BInv (natsI ks).length A4 ∧ liveA A4 ≤ 1020 ∧ Rep A4 f (FnS (natsI ks) r) ∧ Rep A4 f3 (FnS (natsI ks) s) ∧ Rep A4 x (fun a => FnS (natsI ks) r a || FnS (natsI ks) s a)) ∧ Hp w (fun _ => False) w' [arR ga q sv4 20000 A4, blk g7 24 (sc t), blk g6 24 (sc s), blk g5 24 (sc r)] (bdM g ga co B' (natsI ks) ++ [])) ?_ ?_
  · refine call_fn (c116 ho8 f f3 (by omega) (by omega) _ hA3 hok3 H.bdAt') ?_
    rintro _ w5 ⟨A4, sv4, x, e, rfl, hm, hok4, ht⟩
    have hm := hm.made hr3.there (one_there _) hs3.there
    obtain ⟨rfl, hr, hl⟩ := made_small hm (iteF_low hA3 _ _ _) ho8 hl3 (by decide)
    rw [rep_or hr3 hs3] at hr
    exact ⟨(x, sv4, A4), ⟨rfl, rfl, trivial⟩, ⟨hok4, hm.inv, hl, hr3.ext hA3.inv hm.inv.inv hm.ext, hs3.ext hA3.inv hm.inv.inv hm.ext, hr⟩, H.turnBy 0 rfl ht⟩
  clear H hok3 hA3 hl3 hr3 hs3
  rintro ⟨x, sv4, A4⟩ u w11 ⟨⟨hok4, hA4, hl4, hr4, hs4, hx4⟩, H⟩
  replace H : Hp _ _ _ _ _ := H
  refine cut_rule (γ := Int × Value × Ar) _ rfl (fun (y, _) => [(18, .int .i64 y), (19, .int .i64 0)]) (fun (y, sv5, A5) w' => (ArOk 20000 A5 ∧ BInv (natsI ks).length A5 ∧ liveA A5 ≤ 1275 ∧ Rep A5 f (FnS (natsI ks) r) ∧ Rep A5 f3 (FnS (natsI ks) s) ∧ Rep A5 x (fun a => FnS (natsI ks) r a || FnS (natsI ks) s a) ∧ Rep A5 y (fun a => FnS (natsI ks) r a && FnS (natsI ks) s a)) ∧ Hp w (fun _ => False) w' [arR ga q sv5 20000 A5, blk g7 24 (sc t), blk g6 24 (sc s), blk g5 24 (sc r)] (bdM g ga co B' (natsI ks) ++ [])) ?_ ?_
  · refine call_fn (c114 ho8 f f3 (by omega) (by omega) _ hA4 hok4 H.bdAt') ?_
    rintro _ w5 ⟨A5, sv5, y, e, rfl, hm, hok5, ht⟩
    have hm := hm.made hr4.there hs4.there (end_there _)
    obtain ⟨rfl, hr, hl⟩ := made_small hm (iteF_low hA4 _ _ _) ho8 hl4 (by decide)
    rw [ite_and hr4 hs4] at hr
    exact ⟨(y, sv5, A5), ⟨rfl, rfl, trivial⟩, ⟨hok5, hm.inv, hl, hr4.ext hA4.inv hm.inv.inv hm.ext, hs4.ext hA4.inv hm.inv.inv hm.ext, hx4.ext hA4.inv hm.inv.inv hm.ext, hr⟩, H.turnBy 0 rfl ht⟩
  clear H hok4 hA4 hl4 hr4 hs4 hx4
  rintro ⟨y, sv5, A5⟩ u w12 ⟨⟨hok5, hA5, hl5, hr5, hs5, hx5, hy5⟩, H⟩
  replace H : Hp _ _ _ _ _ := H
  refine cut_rule (γ := Value × Ar) _ rfl (fun _ => [(20, .int .i64 x), (21, .int .i64 0)]) (fun (sv6, A6) w' => (ArOk 20000 A6 ∧ BInv (natsI ks).length A6 ∧ Rep A6 f (FnS (natsI ks) r) ∧ Rep A6 f3 (FnS (natsI ks) s) ∧ Rep A6 x (fun a => FnS (natsI ks) r a || FnS (natsI ks) s a) ∧ Rep A6 y (fun a => FnS (natsI ks) r a && FnS (natsI ks) s a)) ∧ Hp w (fun _ => False) w' [arR ga q sv6 20000 A6, blk g7 24 (sc t), blk g6 24 (sc s), blk g5 24 (sc r)] (bdM g ga co B' (natsI ks) ++ [])) ?_ ?_
  · refine call_fn (c117 ho8 f 1 f3 (by omega) (by decide) (by omega) _ hA5 hok5 H.bdAt') ?_
    rintro _ w5 ⟨A6, sv6, z, e, rfl, hm, hok6, ht⟩
    have hm := hm.made hr5.there (one_there _) hs5.there
    obtain ⟨rfl, hr, hl⟩ := made_small hm (iteF_low hA5 _ _ _) ho8 hl5 (by decide)
    rw [rep_or hr5 hs5] at hr
    have hx6 := hx5.ext hA5.inv hm.inv.inv hm.ext
    obtain rfl := rep_canon hm.inv hr hx6
    exact ⟨(sv6, A6), ⟨rfl, rfl, trivial⟩, ⟨hok6, hm.inv, hr5.ext hA5.inv hm.inv.inv hm.ext, hs5.ext hA5.inv hm.inv.inv hm.ext, hx6, hy5.ext hA5.inv hm.inv.inv hm.ext⟩, H.turnBy 0 rfl ht⟩
  clear H hok5 hA5 hl5 hr5 hs5 hx5 hy5
  rintro ⟨sv6, A6⟩ u w13 ⟨⟨hok6, hA6, hr6, hs6, hx6, hy6⟩, H⟩
  replace H : Hp _ _ _ _ _ := H
  refine cut_rule (γ := Nat) _ rfl (fun g22 => [(22, .pointer (some ⟨g22, 0, none⟩))]) (fun g22 w' => Hp w (fun _ => False) w' [blk g22 24 (sc r), blk g7 24 (sc t), blk g6 24 (sc s), blk g5 24 (sc r)] (bdM g ga co B' (natsI ks) ++ [])) ?_ ?_
  · have hc := c110b ho f (by omega) _ hA6 hok6 H.bdAt'
    rw [if_pos hr6.there, set_of ho hr hr6 hrz] at hc
    refine call_fn hc ?_
    rintro _ w9 ⟨rfl, hk⟩
    replace H := H.same hk
    clear hk
    refine H.alloc 24 (cs := sc 0) zero24 sc_zero ?_
    clear H
    intro g8 w4 H
    refine H.storeSet 0 rfl ?_
    clear H
    intro w5 H
    exact ⟨g8, ⟨rfl, trivial⟩, (H.front 1 rfl).forget⟩
  clear H
  rintro g22 u w14 H
  replace H : Hp _ _ _ _ _ := H
  have e1 : (f == f3) = (r == s) := by
    rw [Bool.eq_iff_iff, beq_iff_eq, beq_iff_eq, rep_eq hA6 hr6 hs6]
    exact FnS_eq ho hr hs hrz hsz
  have e2 : (x == y) = (r == s) := by
    rw [Bool.eq_iff_iff, beq_iff_eq, beq_iff_eq, rep_eq hA6 hx6 hy6]
    exact or_and.trans (FnS_eq ho hr hs hrz hsz)
  cases hb : r == s with
  | true =>
    rw [hb] at e1 e2
    refine H.loadAll 3 rfl agg24 size24 ?_
    refine H.loadAll 2 rfl agg24 size24 ?_
    refine bin_eql24 (by first | assumption | decide) (by first | assumption | decide) ?_
    refine bin_eql_bool Try.underlying4 ?_
    refine cond_dec (fun h19 => ?_) (fun h19 => ?_)
    · refine cond_yes (beq_iff_eq.2 (by assumption)) ?_
      iterate 2 refine cond_yes (beq_iff_eq.2 (by assumption)) ?_
      refine H.loadAll 3 rfl agg24 size24 ?_
      refine cond_yes (beq_iff_eq.2 (by assumption)) ?_
      refine H.loadAll 2 rfl agg24 size24 ?_
      refine cond_yes (beq_iff_eq.2 (by assumption)) ?_
      refine bin_eql24 (by first | assumption | decide) (by first | assumption | decide) ?_
      refine cond_yes (beq_iff_eq.2 (by assumption)) ?_
      refine bin_eql_bool Try.underlying4 ?_
      refine cond_yes (beq_iff_eq.2 (by assumption)) ?_
      refine cond_dec (fun h33 => ?_) (fun h33 => ?_)
      · refine cond_yes (beq_iff_eq.2 (by assumption)) ?_
        iterate 2 refine cond_yes (beq_iff_eq.2 (by assumption)) ?_
        refine cond_yes (beq_self_eq_true _) ?_
        refine H.loadAll 0 rfl agg24 size24 ?_
        refine cond_yes (beq_self_eq_true _) ?_
        refine H.loadAll 3 rfl agg24 size24 ?_
        refine cond_yes (beq_self_eq_true _) ?_
        refine bin_eql24 (by first | assumption | decide) (by first | assumption | decide) ?_
        iterate 2 refine cond_yes (beq_self_eq_true _) ?_
        refine call_fn (c106 _) ?_
        rintro _ w45 ⟨rfl, hk⟩
        replace H := H.same hk
        clear hk
        refine cond_yes (beq_self_eq_true _) ?_
        exact ⟨rfl, H.keeps⟩
      · refine cond_no (beq_eq_false_iff_ne.2 (by assumption)) ?_
        iterate 2 refine cond_no (beq_eq_false_iff_ne.2 (by assumption)) ?_
        iterate 6 refine cond_no rfl ?_
        refine ⟨congrArg Value.bool ?_, H.keeps⟩
        exact absurd (e2.trans hb.symm) h33
    · refine cond_no (beq_eq_false_iff_ne.2 (by assumption)) ?_
      iterate 6 refine cond_no (beq_eq_false_iff_ne.2 (by assumption)) ?_
      iterate 10 refine cond_no rfl ?_
      refine ⟨congrArg Value.bool ?_, H.keeps⟩
      exact absurd (e1.trans hb.symm) h19
  | false =>
    rw [hb] at e1 e2
    refine H.loadAll 3 rfl agg24 size24 ?_
    refine H.loadAll 2 rfl agg24 size24 ?_
    refine bin_eql24 (by first | assumption | decide) (by first | assumption | decide) ?_
    refine bin_eql_bool Try.underlying4 ?_
    refine cond_dec (fun h19 => ?_) (fun h19 => ?_)
    · refine cond_yes (beq_iff_eq.2 (by assumption)) ?_
      iterate 2 refine cond_yes (beq_iff_eq.2 (by assumption)) ?_
      refine H.loadAll 3 rfl agg24 size24 ?_
      refine cond_yes (beq_iff_eq.2 (by assumption)) ?_
      refine H.loadAll 2 rfl agg24 size24 ?_
      refine cond_yes (beq_iff_eq.2 (by assumption)) ?_
      refine bin_eql24 (by first | assumption | decide) (by first | assumption | decide) ?_
      refine cond_yes (beq_iff_eq.2 (by assumption)) ?_
      refine bin_eql_bool Try.underlying4 ?_
      refine cond_yes (beq_iff_eq.2 (by assumption)) ?_
      refine cond_dec (fun h33 => ?_) (fun h33 => ?_)
      · refine cond_yes (beq_iff_eq.2 (by assumption)) ?_
        iterate 2 refine cond_yes (beq_iff_eq.2 (by assumption)) ?_
        refine cond_yes (beq_self_eq_true _) ?_
        refine H.loadAll 0 rfl agg24 size24 ?_
        refine cond_yes (beq_self_eq_true _) ?_
        refine H.loadAll 3 rfl agg24 size24 ?_
        refine cond_yes (beq_self_eq_true _) ?_
        refine bin_eql24 (by first | assumption | decide) (by first | assumption | decide) ?_
        iterate 2 refine cond_yes (beq_self_eq_true _) ?_
        refine call_fn (c106 _) ?_
        rintro _ w45 ⟨rfl, hk⟩
        replace H := H.same hk
        clear hk
        refine cond_yes (beq_self_eq_true _) ?_
        exact ⟨rfl, H.keeps⟩
      · refine cond_no (beq_eq_false_iff_ne.2 (by assumption)) ?_
        iterate 2 refine cond_no (beq_eq_false_iff_ne.2 (by assumption)) ?_
        iterate 6 refine cond_no rfl ?_
        refine ⟨congrArg Value.bool ?_, H.keeps⟩
        exact absurd (e2.trans hb.symm) h33
    · refine cond_no (beq_eq_false_iff_ne.2 (by assumption)) ?_
      iterate 6 refine cond_no (beq_eq_false_iff_ne.2 (by assumption)) ?_
      iterate 10 refine cond_no rfl ?_
      refine ⟨congrArg Value.bool ?_, H.keeps⟩
      exact absurd (e1.trans hb.symm) h19
theorem law23 (v : Value) (r : Nat) (hr : r < 2 ^ 256) (s : Nat) (hs : s < 2 ^ 256) (t : Nat) (ht : t < 2 ^ 256) (w : World) {ks : List Int} (hk : IntsAt w v ks) : Fun Try.prog 23 [v, sv r, sv s, sv t] w fun v w' => v = .bool true ∧ Same w w' := by
  obtain ⟨B, c, rfl, hl, _, hS⟩ := hk
  exact law23_m ks B c r s t hr hs ht w hl hS
end Go.Proofs.Ytjebpngdinbckaa
end

import Derived.Test.YtjebpngdinbckaaPart6
/- Lemmas, part 7: what the proof of the row uses. -/
section
/- Decision diagrams: what is answered where there is room enough; knows. -/
namespace Go.Proofs.Ytjebpngdinbckaa
open Go.Dk
attribute [local irreducible] IntKind.wrap

theorem iteF_low {n : Nat} {A : Ar} (h : BInv n A) (f p q : Int) : Low n (iteF A f p q) := fun a b hab => by
  unfold iteF
  rw [sem_low h f a b hab, sem_low h p a b hab, sem_low h q a b hab]
theorem fixF_low {n : Nat} {A : Ar} (h : BInv n A) (f : Int) (level : Nat) (v : Bool) : Low n (fixF A f level v) := (sem_low h f).up level v
theorem made_small {n : Nat} {room : Int} {A A' : Ar} {F : Dk.Fn} {id e : Int} (h : Made n room A A' F id e) (hF : Low n F) (hn : n ≤ 8) {q : Nat} (hq : liveA A ≤ q) (hr : (q : Int) + 256 ≤ room) : e = 0 ∧ Rep A' id F ∧ liveA A' ≤ q + 255 := by
  have hD := low_hangs hF
  have h1 := made_few h hD
  have hp := pow_le_256 hn
  have hc : (2 : Int) ^ n = ((2 ^ n : Nat) : Int) := by simp
  rw [List.length_range] at h1
  obtain ⟨he, hrep⟩ := made_ok h hD (by rw [List.length_range, hc]; omega)
  exact ⟨he, hrep, by omega⟩
theorem some_small {n : Nat} {room : Int} {A A' : Ar} {f : Int} {level : Nat} {id e : Int} (h : SomeR n room A A' f level id e) (hA : BInv n A) (hn : n ≤ 8) {q : Nat} (hq : liveA A ≤ q) (hr : (q : Int) + 1024 ≤ room) :
    e = 0 ∧ Rep A' id (fun a => sem A f a || sem A f (upA a level (!a level))) ∧ liveA A' ≤ q + 765 ∧ Ext A A' ∧ BInv n A' := by
  rcases h with ⟨x, m1, he, _⟩ | ⟨A1, x, y, m1, m2, he, _⟩ | ⟨A1, A2, x, y, m1, m2, m3⟩
  · exact absurd (made_small m1 (fixF_low hA f level false) hn hq (by omega)).1 he
  · obtain ⟨_, _, l1⟩ := made_small m1 (fixF_low hA f level false) hn hq (by omega)
    exact absurd (made_small m2 (fixF_low hA f level true) hn l1 (by omega)).1 he
  · obtain ⟨_, r1, l1⟩ := made_small m1 (fixF_low hA f level false) hn hq (by omega)
    obtain ⟨_, r2, l2⟩ := made_small m2 (fixF_low hA f level true) hn l1 (by omega)
    obtain ⟨he, r3, l3⟩ := made_small m3 (iteF_low m2.inv x 1 y) hn l2 (by omega)
    refine ⟨he, r3.congr fun a => ?_, by omega, (m1.ext.trans m2.ext).trans m3.ext, m3.inv⟩
    have r1' := r1.ext m1.inv.inv m2.inv.inv m2.ext
    unfold iteF
    rw [r1'.says, r2.says, sem_none (nd_end (.inr rfl))]
    exact some_or (sem A f) level a
theorem _root_.Go.Dk.Hp.takeN {w0 w : World} {F : Nat → Prop} {L M : List Res} (H : Hp w0 F w L M) (n : Nat) : Hp w0 F w (L.take n) M :=
  ⟨H.keeps, fun s hs => H.ok s (List.mem_of_mem_take hs), fun s hs => H.lt s (List.mem_of_mem_take hs), fun s hs => H.new s (List.mem_of_mem_take hs), H.dis.sublist (List.take_sublist _ _), H.rok, H.rlt, fun q hq s hs => H.rdis q hq s (List.mem_of_mem_take hs)⟩
theorem reach_size {o : List Nat} (ho : OrdO o) {A : Ar} (h : BInv o.length A) {s : Nat} {id : Int} (hr : Rep A id (FnS o s)) : (reachL A id).length = sizeS o s := by
  unfold reachL reachTo
  rw [List.length_map]
  refine reach_count ho h hr (List.nodup_range.sublist List.filter_sublist) fun x => ?_
  rw [List.mem_filter, List.mem_range, reach_spec h.inv]
  constructor
  · exact fun h => h.2
  · intro hx
    obtain ⟨d, hd⟩ := hx.slot
    exact ⟨slot_lt hd, hx⟩
/-! The examples. -/
theorem ordI01 : OrdI [0, 1] := by decide
theorem ent106 : enters Try.prog 106 = true := by kernel_rfl
theorem c106 (w : World) : Fun Try.prog 106 [] w fun v w' => v = .bool true ∧ Same w w' := by
  refine fun_of_W (N := 78) Try.func106 ent106 rfl rfl rfl (by simp) ?_
  have H := Hp.start0 w
  have ho : OrdO (natsI [0, 1]) := ordI01.nats
  have ho8 : (natsI [0, 1]).length ≤ 8 := ho.le
  refine cut_rule (γ := Unit) _ rfl (fun _ => [(0, .bool false)]) (fun _ w' => Hp w (fun _ => False) w' [] []) ⟨(), ⟨rfl, trivial⟩, H⟩ ?_
  clear H
  rintro ⟨⟩ u w0 H
  replace H : Hp _ _ _ _ _ := H
  refine cut_rule (γ := Nat × Nat × Nat × Nat × Option Addr) _ rfl (fun (g, _) => [(1, .pointer (some ⟨g, 0, none⟩)), (2, .int .i64 0)]) (fun (g, ga, r, co, B) w' => Hp w (fun _ => False) w' [arR ga r (.slice none 0 0) 20000 []] (bdM g ga co B (natsI [0, 1]) ++ [])) ?_ ?_
  · refine H.buildSl T32 (n := 2) (cs := #[.int .i64 0, .int .i64 1]) (by omega) (by omega) (by kernel_rfl) ?_
    clear H
    intro g5 w1 H
    refine call_fn (c113 [0, 1] (some ⟨g5, 0, none⟩) 2 20000 _ (by decide) (blkN_Sl (H.get 0 rfl) (blk_lt (H.get 0 rfl)) rfl (by decide))) ?_
    rintro _ w2 (⟨h, _⟩ | ⟨_, _, _, g, ga, r, co, B, rfl, hn⟩)
    · rcases h with h | h | h
      · exact absurd ordI01 h
      · exact absurd h (by decide)
      · exact absurd h (by decide)
    · exact ⟨(g, ga, r, co, B), ⟨rfl, rfl, trivial⟩, (H.addNew hn).bdOpen.takeN 1⟩
  clear H
  rintro ⟨g, ga, r, co, B⟩ u w1 H
  replace H : Hp _ _ _ _ _ := H
  have hA0 : BInv (natsI [0, 1]).length [] := BInv.nil _
  have hok0 : ArOk 20000 [] := ok_start (by decide) (by decide)
  refine cut_rule (γ := Int × Value × Ar) _ rfl (fun (f, _) => [(3, .int .i64 f), (4, .int .i64 0)]) (fun (f, sv1, A1) w' => (ArOk 20000 A1 ∧ BInv (natsI [0, 1]).length A1 ∧ liveA A1 ≤ 255 ∧ Rep A1 f (FnS (natsI [0, 1]) 10)) ∧ Hp w (fun _ => False) w' [arR ga r sv1 20000 A1] (bdM g ga co B (natsI [0, 1]) ++ [])) ?_ ?_
  · refine build24_10 ?_
    refine call_fn (c108 ho ho8 (s := 10) (by decide) _ hA0 hok0 H.bdAt') ?_
    rintro _ w2 ⟨A1, sv1, f, e, rfl, (⟨h, _⟩ | ⟨_, hm⟩), hok1, ht⟩
    · exact absurd (by decide +kernel) h
    · obtain ⟨rfl, hr, hl⟩ := made_small hm (FnS_low ho 10) ho8 (q := 0) (by decide) (by decide)
      exact ⟨(f, sv1, A1), ⟨rfl, rfl, trivial⟩, ⟨hok1, hm.inv, hl, hr⟩, H.turnBy 0 rfl ht⟩
  clear H hok0 hA0
  rintro ⟨f, sv1, A1⟩ u w2 ⟨⟨hok1, hA1, hl1, hr1⟩, H⟩
  replace H : Hp _ _ _ _ _ := H
  have tf := hr1.there
  have hfl := id_lt hok1 tf
  have hf1 : 1 < f := by
    have h0 : f ≠ 0 := fun h => by
      have := hr1.says (fun k => k == 0)
      rw [h, sem_none (nd_end (.inl rfl))] at this
      exact absurd this (by decide)
    have h1 : f ≠ 1 := fun h => by
      have := hr1.says (fun _ => false)
      rw [h, sem_none (nd_end (.inr rfl))] at this
      exact absurd this (by decide)
    have := lvlA_nonneg tf
    omega
  refine cut_rule (γ := Nat) _ rfl (fun g5 => [(5, .pointer (some ⟨g5, 0, none⟩)), (6, .int .i64 0)]) (fun g5 w' => Hp w (fun _ => False) w' [arR ga r sv1 20000 A1, blk g5 24 (sc 10)] (bdM g ga co B (natsI [0, 1]) ++ [])) ?_ ?_
  · have hset : setD (natsI [0, 1]) A1 f = 10 := setD_rep ho hr1 (by decide) (fun p hp => by
      have : p < 4 := by
        rcases Nat.lt_or_ge p 4 with h | h
        · exact h
        · rw [Nat.testBit_lt_two_pow (Nat.lt_of_lt_of_le (by decide : 10 < 2 ^ 4) (Nat.pow_le_pow_right (by decide) h))] at hp; cases hp
      exact this) (fun p hp => FnS_asg ho 10 hp)
    have hc := c110b ho f (by omega) _ hA1 hok1 H.bdAt'
    rw [if_pos tf, hset] at hc
    refine call_fn hc ?_
    rintro _ w3 ⟨rfl, hk⟩
    replace H := H.same hk
    clear hk
    refine H.alloc 24 (cs := sc 0) zero24 sc_zero ?_
    clear H
    intro g5 w4 H
    refine H.storeSet 0 rfl ?_
    clear H
    intro w5 H
    exact ⟨g5, ⟨rfl, rfl, trivial⟩, H.front 1 rfl⟩
  clear H
  rintro g5 u w3 H
  replace H : Hp _ _ _ _ _ := H
  have t0 : ∀ A : Ar, 0 ≤ lvlA A 0 := fun A => by rw [lvl_end (.inl rfl)]; decide
  have t1 : ∀ A : Ar, 0 ≤ lvlA A 1 := fun A => by rw [lvl_end (.inr rfl)]; decide
  refine cut_rule (γ := Int × Value × Ar) _ rfl (fun (x, _) => [(7, .int .i64 x), (8, .int .i64 0)]) (fun (x, sv2, A2) w' => (ArOk 20000 A2 ∧ BInv (natsI [0, 1]).length A2 ∧ liveA A2 ≤ 510 ∧ Ext A1 A2 ∧ Rep A2 x (iteF A1 f 0 1)) ∧ Hp w (fun _ => False) w' [arR ga r sv2 20000 A2, blk g5 24 (sc 10)] (bdM g ga co B (natsI [0, 1]) ++ [])) ?_ ?_
  · refine call_fn (c128 ho8 f (by omega) _ hA1 hok1 H.bdAt') ?_
    rintro _ w4 ⟨A2, sv2, x, e, rfl, hm, hok2, ht⟩
    have hm := hm.made tf (t0 _) (t1 _)
    obtain ⟨rfl, hr, hl⟩ := made_small hm (iteF_low hA1 _ _ _) ho8 hl1 (by decide)
    exact ⟨(x, sv2, A2), ⟨rfl, rfl, trivial⟩, ⟨hok2, hm.inv, hl, hm.ext, hr⟩, H.turnBy 0 rfl ht⟩
  clear H
  rintro ⟨x, sv2, A2⟩ u w4 ⟨⟨hok2, hA2, hl2, hx2, hr2⟩, H⟩
  replace H : Hp _ _ _ _ _ := H
  have hf2 := hr1.ext hA1.inv hA2.inv hx2
  have hxl := id_lt hok2 hr2.there
  refine cut_rule (γ := Value × Ar) _ rfl (fun _ => [(9, .int .i64 1), (10, .int .i64 0)]) (fun (sv3, A3) w' => (ArOk 20000 A3 ∧ BInv (natsI [0, 1]).length A3 ∧ Rep A3 f (FnS (natsI [0, 1]) 10)) ∧ Hp w (fun _ => False) w' [arR ga r sv3 20000 A3, blk g5 24 (sc 10)] (bdM g ga co B (natsI [0, 1]) ++ [])) ?_ ?_
  · refine call_fn (c116 ho8 f x (by omega) (by omega) _ hA2 hok2 H.bdAt') ?_
    rintro _ w5 ⟨A3, sv3, y, e, rfl, hm, hok3, ht⟩
    have hm := hm.made hf2.there (t1 _) hr2.there
    obtain ⟨rfl, hr, hl⟩ := made_small hm (iteF_low hA2 _ _ _) ho8 hl2 (by decide)
    have hy : y = 1 := by
      refine rep_canon hm.inv hr (rep_one.congr fun a => ?_)
      unfold iteF
      rw [sem_none (nd_end (.inr rfl)), hr2.says]
      unfold iteF
      rw [sem_none (nd_end (.inr rfl)), hf2.says, hr1.says]
      cases FnS (natsI [0, 1]) 10 a <;> rfl
    subst hy
    exact ⟨(sv3, A3), ⟨rfl, rfl, trivial⟩, ⟨hok3, hm.inv, hf2.ext hA2.inv hm.inv.inv hm.ext⟩, H.turnBy 0 rfl ht⟩
  clear H
  rintro ⟨sv3, A3⟩ u w5 ⟨⟨hok3, hA3, hr3⟩, H⟩
  replace H : Hp _ _ _ _ _ := H
  iterate 6 refine cond_yes rfl ?_
  refine cond_yes (decide_eq_true (by assumption)) ?_
  refine H.loadAll 1 rfl agg24 size24 ?_
  refine cond_yes (decide_eq_true (by assumption)) ?_
  have hsz : sizeS (natsI [0, 1]) 10 = 1 := by decide +kernel
  have hc := c111 (n := (natsI [0, 1]).length) (c := co) (B := B) hok3 f (by omega) w5 (H.ro 0 rfl) (H.get 0 rfl)
  refine build24_10 ?_
  refine cond_yes (decide_eq_true (by assumption)) ?_
  refine bin_eql24 (by first | assumption | decide) (by first | assumption | decide) ?_
  refine cond_yes (decide_eq_true (by assumption)) ?_
  iterate 15 refine cond_yes rfl ?_
  rw [reach_size ho hA3 hr3, hsz] at hc
  refine call_fn hc ?_
  rintro _ w6 ⟨rfl, hk⟩
  replace H := H.same hk
  clear hk
  iterate 2 refine cond_yes rfl ?_
  exact ⟨rfl, H.keeps⟩
end Go.Proofs.Ytjebpngdinbckaa
end

section
/- Law 21. -/
namespace Go.Proofs.Ytjebpngdinbckaa
open Go.Dk
attribute [local irreducible] IntKind.wrap

theorem less_all {s n : Nat} (hs : s < 2 ^ 256) (h : lessN s (allN n) = 0) : ∀ p, s.testBit p = true → p < 2 ^ n := fun p hp => by
  have h1 := (lessN_zero (b := allN n) hs).1 (by rw [h]; rfl) p
  have hp8 : p < 256 := by
    rcases Nat.lt_or_ge p 256 with h | h
    · exact h
    · rw [testBit_hi hs h] at hp; cases hp
  have h2 := h1 hp8
  unfold allN at h2
  rw [testBit_setOf, decide_eq_true hp8, Bool.true_and] at h2
  refine Classical.byContradiction fun hn => h2 ⟨hp, decide_eq_false hn⟩
theorem set_of {o : List Nat} (ho : OrdO o) {A : Ar} {f : Int} {s : Nat} (hs : s < 2 ^ 256) (hr : Rep A f (FnS o s)) (h : lessN s (allN o.length) = 0) : setD o A f = s :=
  setD_rep ho hr hs (less_all hs h) fun _ hp => FnS_asg ho s hp
/-- The order as it is read. -/
theorem ord_sl {ks : List Int} {B : Option Addr} {c : Nat} {w : World} (hord : OrdI ks) (hs : Sl w (.slice B ks.length c) 1 ks.length (intsI ks)) : Sl w (.slice B (natsI ks).length c) 1 (natsI ks).length (intsN (natsI ks)) := by
  rw [natsI_length, intsN_nats fun x hx => (hord.rng x hx).1]
  exact hs
theorem ent21 : enters Try.prog 21 = true := by kernel_rfl
theorem law21_m (ks : List Int) (B : Option Addr) (c : Nat) (s : Nat) (hs : s < 2 ^ 256) (w : World) (hl : ks.length ≤ 9223372036854775807) (hS : Sl w (.slice B ks.length c) 1 ks.length (intsI ks)) :
    Fun Try.prog 21 [.slice B ks.length c, sv s] w fun v w' => v = .bool true ∧ Same w w' := by
  refine fun_of_W (N := 79) Try.func21 ent21 rfl rfl rfl (by simp) ?_
  have H := Hp.start0 w
  refine cut_rule (γ := Nat) _ rfl (fun g => [(3, .pointer (some ⟨g, 0, none⟩))]) (fun g w' => Hp w (fun _ => False) w' [blk g 24 (sc s)] []) ?_ ?_
  · refine H.box 24 (sv s) (cs := sc s) rfl ?_
    clear H
    intro g1 w1 H
    exact ⟨g1, ⟨rfl, trivial⟩, H⟩
  clear H
  rintro g3 u w1 H
  replace H : Hp _ _ _ _ _ := H
  refine cut_rule (γ := Unit) _ rfl (fun _ => []) (fun _ w' => ks.length ≤ 20 ∧ Hp w (fun _ => False) w' [blk g3 24 (sc s)] []) ?_ ?_
  · refine len_sl Try.underlying32 ?_
    refine cond_dec (fun h4 => ?_) (fun h4 => ?_)
    · refine call_fn (c106 _) ?_
      rintro _ w5 ⟨rfl, hk⟩
      replace H := H.same hk
      clear hk
      exact ⟨rfl, H.keeps⟩
    · exact ⟨(), trivial, by omega, H⟩
  clear H
  rintro ⟨⟩ u w2 ⟨h20, H⟩
  replace H : Hp _ _ _ _ _ := H
  refine call_fn (c107 ks B c _ hl (hS.same H.keeps)) ?_
  rintro _ w3 (⟨hno, rfl, hk⟩ | ⟨hord, g, ga, r, co, B', rfl, hn⟩)
  · replace H := H.same hk
    clear hk
    refine bin_eql123z ?_
    iterate 5 refine cond_yes rfl ?_
    refine call_fn (c106 _) ?_
    rintro _ w10 ⟨rfl, hk⟩
    replace H := H.same hk
    clear hk
    refine cond_yes rfl ?_
    exact ⟨rfl, H.keeps⟩
  · replace H := ((H.addNew hn).bdOpen.takeN 2)
    have ho : OrdO (natsI ks) := hord.nats
    have ho8 : (natsI ks).length ≤ 8 := ho.le
    have hkl : (natsI ks).length = ks.length := natsI_length ks
    have hS' := ord_sl hord hS
    have hA0 : BInv (natsI ks).length [] := BInv.nil _
    have hok0 : ArOk 20000 [] := ok_start (by decide) (by decide)
    have hc109 := fun w1 => c109' s (natsI ks).length hs ho8 w1
    rw [hkl] at hc109
    refine bin_eql123 ?_
    iterate 4 refine cond_no rfl ?_
    refine H.loadAll 1 rfl agg24 size24 ?_
    refine call_fn (c108 ho ho8 hs _ hA0 hok0 H.bdAt') ?_
    rintro _ w4 ⟨A1, sv1, f, e, rfl, (⟨hz, rfl, rfl, rfl⟩ | ⟨hz, hm⟩), hok1, ht⟩
    · replace H := H.turnBy 0 rfl ht
      rw [hkl] at hz
      have hzb : (lessN s (allN ks.length) == 0) = false := by simpa using hz
      rw [hzb] at hc109
      refine H.loadAll 1 rfl agg24 size24 ?_
      refine len_sl Try.underlying32 ?_
      refine call_fn (hc109 _) ?_
      rintro _ w7 ⟨rfl, hk⟩
      replace H := H.same hk
      clear hk
      iterate 5 refine cond_yes rfl ?_
      refine call_fn (c106 _) ?_
      rintro _ w13 ⟨rfl, hk⟩
      replace H := H.same hk
      clear hk
      refine cond_yes rfl ?_
      exact ⟨rfl, H.keeps⟩
    · obtain ⟨rfl, hr, hlive⟩ := made_small hm (FnS_low ho s) ho8 (q := 0) (by decide) (by decide)
      replace H := H.turnBy 0 rfl ht
      have hfl := id_lt hok1 hr.there
      have hset := set_of ho hs hr hz
      have hrs := reach_size ho hm.inv hr
      rw [hkl] at hz
      have hzb : (lessN s (allN ks.length) == 0) = true := by simpa using hz
      rw [hzb] at hc109
      have hc := fun w1 hbd => c110b (w := w1) ho f (by omega) hm.inv hok1 (hbd : BdAt w1 g ga r co B' (natsI ks) sv1 20000 A1)
      rw [if_pos hr.there, hset] at hc
      have hc1 := fun w1 hb h => c111 (n := (natsI ks).length) (c := co) (B := B') (g := g) (ga := ga) (r := r) (sv0 := sv1) hok1 f (by omega) w1 hb h
      rw [hrs] at hc1
      have hc2 := fun w1 hO => c112 ho s B c w1 hO
      rw [hkl] at hc2 hS'
      refine H.loadAll 1 rfl agg24 size24 ?_
      refine len_sl Try.underlying32 ?_
      refine call_fn (hc109 _) ?_
      rintro _ w7 ⟨rfl, hk⟩
      replace H := H.same hk
      clear hk
      refine cond_no rfl ?_
      refine call_fn (hc _ H.bdAt') ?_
      rintro _ w9 ⟨rfl, hk⟩
      replace H := H.same hk
      clear hk
      refine H.alloc 24 (cs := sc 0) zero24 sc_zero ?_
      clear H
      intro g10 w10 H
      refine H.storeSet 0 rfl ?_
      clear H
      intro w11 H
      refine H.draw fol (by kernel_rfl) ?_
      clear H
      intro w12 H
      refine cond_yes rfl ?_
      refine quiet _ (fun w H => H.loadAll 0 rfl agg24 size24 ⟨rfl, rfl⟩) ?_
      refine cond_yes rfl ?_
      refine quiet _ (fun w H => H.loadAll 2 rfl agg24 size24 ⟨rfl, rfl⟩) ?_
      refine cond_yes rfl ?_
      refine quiet _ (fun w H => bin_eql24 (by first | assumption | decide) (by first | assumption | decide) ⟨rfl, rfl⟩) ?_
      refine cond_yes rfl ?_
      iterate 3 refine cond_yes (beq_self_eq_true _) ?_
      iterate 3 refine cond_yes rfl ?_
      refine call_fn (hc1 _ (H.ro 0 rfl) (H.get 1 rfl)) ?_
      rintro _ w27 ⟨rfl, hk⟩
      replace H := H.same hk
      refine ⟨.inl H, ?_⟩
      refine cond_yes rfl ?_
      refine quiet _ (fun w H => H.loadAll 2 rfl agg24 size24 ⟨rfl, rfl⟩) ?_
      iterate 2 refine cond_yes rfl ?_
      refine call_fn (hc2 _ (hS'.same H.keeps)) ?_
      rintro _ w33 ⟨rfl, hk⟩
      replace H := H.same hk
      refine ⟨.inl H, ?_⟩
      iterate 2 refine cond_yes rfl ?_
      refine cond_yes (beq_self_eq_true _) ?_
      refine call_fn (c106 _) ?_
      rintro _ w38 ⟨rfl, hk⟩
      replace H := H.same hk
      clear hk
      refine ⟨.inl H, ?_⟩
      refine cond_yes (beq_self_eq_true _) ?_
      exact ⟨rfl, H.keeps⟩
theorem law21 (v : Value) (s : Nat) (hs : s < 2 ^ 256) (w : World) {ks : List Int} (hk : IntsAt w v ks) : Fun Try.prog 21 [v, sv s] w fun v w' => v = .bool true ∧ Same w w' := by
  obtain ⟨B, c, rfl, hl, _, hS⟩ := hk
  exact law21_m ks B c s hs w hl hS
end Go.Proofs.Ytjebpngdinbckaa
end

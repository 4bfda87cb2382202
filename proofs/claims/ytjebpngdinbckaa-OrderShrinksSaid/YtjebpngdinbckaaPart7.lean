import Derived.Test.YtjebpngdinbckaaPart6
/- Lemmas, part 7: what the proof of the row uses. -/
section
/- Decision diagrams: what is answered where there is room enough; knows. -/
namespace Go.Proofs.Ytjebpngdinbckaa
open Go.Dk
attribute [local irreducible] IntKind.wrap

theorem iteF_low {n : Nat} {A : Ar} (h : BInv n A) (f p q : Int) : Low n (iteF A f p q) := fun a b hab => by
  unfold iteF
  rw [sem_low h f a b hab, sem_low h p a b hab, sem_low h q a b hab]
theorem fixF_low {n : Nat} {A : Ar} (h : BInv n A) (f : Int) (level : Nat) (v : Bool) : Low n (fixF A f level v) := (sem_low h f).up level v
theorem made_small {n : Nat} {room : Int} {A A' : Ar} {F : Dk.Fn} {id e : Int} (h : Made n room A A' F id e) (hF : Low n F) (hn : n ≤ 8) {q : Nat} (hq : liveA A ≤ q) (hr : (q : Int) + 256 ≤ room) : e = 0 ∧ Rep A' id F ∧ liveA A' ≤ q + 255 := by
  have hD := low_hangs hF
  have h1 := made_few h hD
  have hp := pow_le_256 hn
  have hc : (2 : Int) ^ n = ((2 ^ n : Nat) : Int) := by simp
  rw [List.length_range] at h1
  obtain ⟨he, hrep⟩ := made_ok h hD (by rw [List.length_range, hc]; omega)
  exact ⟨he, hrep, by omega⟩
theorem some_small {n : Nat} {room : Int} {A A' : Ar} {f : Int} {level : Nat} {id e : Int} (h : SomeR n room A A' f level id e) (hA : BInv n A) (hn : n ≤ 8) {q : Nat} (hq : liveA A ≤ q) (hr : (q : Int) + 1024 ≤ room) :
    e = 0 ∧ Rep A' id (fun a => sem A f a || sem A f (upA a level (!a level))) ∧ liveA A' ≤ q + 765 ∧ Ext A A' ∧ BInv n A' := by
  rcases h with ⟨x, m1, he, _⟩ | ⟨A1, x, y, m1, m2, he, _⟩ | ⟨A1, A2, x, y, m1, m2, m3⟩
  · exact absurd (made_small m1 (fixF_low hA f level false) hn hq (by omega)).1 he
  · obtain ⟨_, _, l1⟩ := made_small m1 (fixF_low hA f level false) hn hq (by omega)
    exact absurd (made_small m2 (fixF_low hA f level true) hn l1 (by omega)).1 he
  · obtain ⟨_, r1, l1⟩ := made_small m1 (fixF_low hA f level false) hn hq (by omega)
    obtain ⟨_, r2, l2⟩ := made_small m2 (fixF_low hA f level true) hn l1 (by omega)
    obtain ⟨he, r3, l3⟩ := made_small m3 (iteF_low m2.inv x 1 y) hn l2 (by omega)
    refine ⟨he, r3.congr fun a => ?_, by omega, (m1.ext.trans m2.ext).trans m3.ext, m3.inv⟩
    have r1' := r1.ext m1.inv.inv m2.inv.inv m2.ext
    unfold iteF
    rw [r1'.says, r2.says, sem_none (nd_end (.inr rfl))]
    exact some_or (sem A f) level a
theorem _root_.Go.Dk.Hp.takeN {w0 w : World} {F : Nat → Prop} {L M : List Res} (H : Hp w0 F w L M) (n : Nat) : Hp w0 F w (L.take n) M :=
  ⟨H.keeps, fun s hs => H.ok s (List.mem_of_mem_take hs), fun s hs => H.lt s (List.mem_of_mem_take hs), fun s hs => H.new s (List.mem_of_mem_take hs), H.dis.sublist (List.take_sublist _ _), H.rok, H.rlt, fun q hq s hs => H.rdis q hq s (List.mem_of_mem_take hs)⟩
theorem reach_size {o : List Nat} (ho : OrdO o) {A : Ar} (h : BInv o.length A) {s : Nat} {id : Int} (hr : Rep A id (FnS o s)) : (reachL A id).length = sizeS o s := by
  unfold reachL reachTo
  rw [List.length_map]
  refine reach_count ho h hr (List.nodup_range.sublist List.filter_sublist) fun x => ?_
  rw [List.mem_filter, List.mem_range, reach_spec h.inv]
  constructor
  · exact fun h => h.2
  · intro hx
    obtain ⟨d, hd⟩ := hx.slot
    exact ⟨slot_lt hd, hx⟩
/-! The examples. -/
theorem ordI01 : OrdI [0, 1] := by decide
theorem ent106 : enters Try.prog 106 = true := by kernel_rfl
theorem c106 (w : World) : Fun Try.prog 106 [] w fun v w' => v = .bool true ∧ Same w w' := by
  refine fun_of_W (N := 78) Try.func106 ent106 rfl rfl rfl (by simp) ?_
  have H := Hp.start0 w
  have ho : OrdO (natsI [0, 1]) := ordI01.nats
  have ho8 : (natsI [0, 1]).length ≤ 8 := ho.le
  refine cut_rule (γ := Unit) _ rfl (fun _ => [(0, .bool false)]) (fun _ w' => Hp w (fun _ => False) w' [] []) ⟨(), ⟨rfl, trivial⟩, H⟩ ?_
  clear H
  rintro ⟨⟩ u w0 H
  replace H : Hp _ _ _ _ _ := H
  refine cut_rule (γ := Nat × Nat × Nat × Nat × Option Addr) _ rfl (fun (g, _) => [(1, .pointer (some ⟨g, 0, none⟩)), (2, .int .i64 0)]) (fun (g, ga, r, co, B) w' => Hp w (fun _ => False) w' [arR ga r (.slice none 0 0) 20000 []] (bdM g ga co B (natsI [0, 1]) ++ [])) ?_ ?_
  · refine H.buildSl T32 (n := 2) (cs := #[.int .i64 0, .int .i64 1]) (by omega) (by omega) (by kernel_rfl) ?_
    clear H
    intro g5 w1 H
    refine call_fn (c113 [0, 1] (some ⟨g5, 0, none⟩) 2 20000 _ (by decide) (blkN_Sl (H.get 0 rfl) (blk_lt (H.get 0 rfl)) rfl (by decide))) ?_
    rintro _ w2 (⟨h, _⟩ | ⟨_, _, _, g, ga, r, co, B, rfl, hn⟩)
    · rcases h with h | h | h
      · exact absurd ordI01 h
      · exact absurd h (by decide)
      · exact absurd h (by decide)
    · exact ⟨(g, ga, r, co, B), ⟨rfl, rfl, trivial⟩, (H.addNew hn).bdOpen.takeN 1⟩
  clear H
  rintro ⟨g, ga, r, co, B⟩ u w1 H
  replace H : Hp _ _ _ _ _ := H
  have hA0 : BInv (natsI [0, 1]).length [] := BInv.nil _
  have hok0 : ArOk 20000 [] := ok_start (by decide) (by decide)
  refine cut_rule (γ := Int × Value × Ar) _ rfl (fun (f, _) => [(3, .int .i64 f), (4, .int .i64 0)]) (fun (f, sv1, A1) w' => (ArOk 20000 A1 ∧ BInv (natsI [0, 1]).length A1 ∧ liveA A1 ≤ 255 ∧ Rep A1 f (FnS (natsI [0, 1]) 10)) ∧ Hp w (fun _ => False) w' [arR ga r sv1 20000 A1] (bdM g ga co B (natsI [0, 1]) ++ [])) ?_ ?_
  · refine build24_10 ?_
    refine call_fn (c108 ho ho8 (s := 10) (by decide) _ hA0 hok0 H.bdAt') ?_
    rintro _ w2 ⟨A1, sv1, f, e, rfl, (⟨h, _⟩ | ⟨_, hm⟩), hok1, ht⟩
    · exact absurd (by decide +kernel) h
    · obtain ⟨rfl, hr, hl⟩ := made_small hm (FnS_low ho 10) ho8 (q := 0) (by decide) (by decide)
      exact ⟨(f, sv1, A1), ⟨rfl, rfl, trivial⟩, ⟨hok1, hm.inv, hl, hr⟩, H.turnBy 0 rfl ht⟩
  clear H hok0 hA0
  rintro ⟨f, sv1, A1⟩ u w2 ⟨⟨hok1, hA1, hl1, hr1⟩, H⟩
  replace H : Hp _ _ _ _ _ := H
  have tf := hr1.there
  have hfl := id_lt hok1 tf
  have hf1 : 1 < f := by
    have h0 : f ≠ 0 := fun h => by
      have := hr1.says (fun k => k == 0)
      rw [h, sem_none (nd_end (.inl rfl))] at this
      exact absurd this (by decide)
    have h1 : f ≠ 1 := fun h => by
      have := hr1.says (fun _ => false)
      rw [h, sem_none (nd_end (.inr rfl))] at this
      exact absurd this (by decide)
    have := lvlA_nonneg tf
    omega
  refine cut_rule (γ := Nat) _ rfl (fun g5 => [(5, .pointer (some ⟨g5, 0, none⟩)), (6, .int .i64 0)]) (fun g5 w' => Hp w (fun _ => False) w' [arR ga r sv1 20000 A1, blk g5 24 (sc 10)] (bdM g ga co B (natsI [0, 1]) ++ [])) ?_ ?_
  · have hset : setD (natsI [0, 1]) A1 f = 10 := setD_rep ho hr1 (by decide) (fun p hp => by
      have : p < 4 := by
        rcases Nat.lt_or_ge p 4 with h | h
        · exact h
        · rw [Nat.testBit_lt_two_pow (Nat.lt_of_lt_of_le (by decide : 10 < 2 ^ 4) (Nat.pow_le_pow_right (by decide) h))] at hp; cases hp
      exact this) (fun p hp => FnS_asg ho 10 hp)
    have hc := c110b ho f (by omega) _ hA1 hok1 H.bdAt'
    rw [if_pos tf, hset] at hc
    refine call_fn hc ?_
    rintro _ w3 ⟨rfl, hk⟩
    replace H := H.same hk
    clear hk
    refine H.alloc 24 (cs := sc 0) zero24 sc_zero ?_
    clear H
    intro g5 w4 H
    refine H.storeSet 0 rfl ?_
    clear H
    intro w5 H
    exact ⟨g5, ⟨rfl, rfl, trivial⟩, H.front 1 rfl⟩
  clear H
  rintro g5 u w3 H
  replace H : Hp _ _ _ _ _ := H
  have t0 : ∀ A : Ar, 0 ≤ lvlA A 0 := fun A => by rw [lvl_end (.inl rfl)]; decide
  have t1 : ∀ A : Ar, 0 ≤ lvlA A 1 := fun A => by rw [lvl_end (.inr rfl)]; decide
  refine cut_rule (γ := Int × Value × Ar) _ rfl (fun (x, _) => [(7, .int .i64 x), (8, .int .i64 0)]) (fun (x, sv2, A2) w' => (ArOk 20000 A2 ∧ BInv (natsI [0, 1]).length A2 ∧ liveA A2 ≤ 510 ∧ Ext A1 A2 ∧ Rep A2 x (iteF A1 f 0 1)) ∧ Hp w (fun _ => False) w' [arR ga r sv2 20000 A2, blk g5 24 (sc 10)] (bdM g ga co B (natsI [0, 1]) ++ [])) ?_ ?_
  · refine call_fn (c128 ho8 f (by omega) _ hA1 hok1 H.bdAt') ?_
    rintro _ w4 ⟨A2, sv2, x, e, rfl, hm, hok2, ht⟩
    have hm := hm.made tf (t0 _) (t1 _)
    obtain ⟨rfl, hr, hl⟩ := made_small hm (iteF_low hA1 _ _ _) ho8 hl1 (by decide)
    exact ⟨(x, sv2, A2), ⟨rfl, rfl, trivial⟩, ⟨hok2, hm.inv, hl, hm.ext, hr⟩, H.turnBy 0 rfl ht⟩
  clear H
  rintro ⟨x, sv2, A2⟩ u w4 ⟨⟨hok2, hA2, hl2, hx2, hr2⟩, H⟩
  replace H : Hp _ _ _ _ _ := H
  have hf2 := hr1.ext hA1.inv hA2.inv hx2
  have hxl := id_lt hok2 hr2.there
  refine cut_rule (γ := Value × Ar) _ rfl (fun _ => [(9, .int .i64 1), (10, .int .i64 0)]) (fun (sv3, A3) w' => (ArOk 20000 A3 ∧ BInv (natsI [0, 1]).length A3 ∧ Rep A3 f (FnS (natsI [0, 1]) 10)) ∧ Hp w (fun _ => False) w' [arR ga r sv3 20000 A3, blk g5 24 (sc 10)] (bdM g ga co B (natsI [0, 1]) ++ [])) ?_ ?_
  · refine call_fn (c116 ho8 f x (by omega) (by omega) _ hA2 hok2 H.bdAt') ?_
    rintro _ w5 ⟨A3, sv3, y, e, rfl, hm, hok3, ht⟩
    have hm := hm.made hf2.there (t1 _) hr2.there
    obtain ⟨rfl, hr, hl⟩ := made_small hm (iteF_low hA2 _ _ _) ho8 hl2 (by decide)
    have hy : y = 1 := by
      refine rep_canon hm.inv hr (rep_one.congr fun a => ?_)
      unfold iteF
      rw [sem_none (nd_end (.inr rfl)), hr2.says]
      unfold iteF
      rw [sem_none (nd_end (.inr rfl)), hf2.says, hr1.says]
      cases FnS (natsI [0, 1]) 10 a <;> rfl
    subst hy
    exact ⟨(sv3, A3), ⟨rfl, rfl, trivial⟩, ⟨hok3, hm.inv, hf2.ext hA2.inv hm.inv.inv hm.ext⟩, H.turnBy 0 rfl ht⟩
  clear H
  rintro ⟨sv3, A3⟩ u w5 ⟨⟨hok3, hA3, hr3⟩, H⟩
  replace H : Hp _ _ _ _ _ := H
  iterate 6 refine cond_yes rfl ?_
  refine cond_yes (decide_eq_true (by assumption)) ?_
  refine H.loadAll 1 rfl agg24 size24 ?_
  refine cond_yes (decide_eq_true (by assumption)) ?_
  have hsz : sizeS (natsI [0, 1]) 10 = 1 := by decide +kernel
  have hc := c111 (n := (natsI [0, 1]).length) (c := co) (B := B) hok3 f (by omega) w5 (H.ro 0 rfl) (H.get 0 rfl)
  refine build24_10 ?_
  refine cond_yes (decide_eq_true (by assumption)) ?_
  refine bin_eql24 (by first | assumption | decide) (by first | assumption | decide) ?_
  refine cond_yes (decide_eq_true (by assumption)) ?_
  iterate 15 refine cond_yes rfl ?_
  rw [reach_size ho hA3 hr3, hsz] at hc
  refine call_fn hc ?_
  rintro _ w6 ⟨rfl, hk⟩
  replace H := H.same hk
  clear hk
  iterate 2 refine cond_yes rfl ?_
  exact ⟨rfl, H.keeps⟩
end Go.Proofs.Ytjebpngdinbckaa
end

section
/- Law 21. -/
namespace Go.Proofs.Ytjebpngdinbckaa
open Go.Dk
attribute [local irreducible] IntKind.wrap

theorem less_all {s n : Nat} (hs : s < 2 ^ 256) (h : lessN s (allN n) = 0) : ∀ p, s.testBit p = true → p < 2 ^ n := fun p hp => by
  have h1 := (lessN_zero (b := allN n) hs).1 (by rw [h]; rfl) p
  have hp8 : p < 256 := by
    rcases Nat.lt_or_ge p 256 with h | h
    · exact h
    · rw [testBit_hi hs h] at hp; cases hp
  have h2 := h1 hp8
  unfold allN at h2
  rw [testBit_setOf, decide_eq_true hp8, Bool.true_and] at h2
  refine Classical.byContradiction fun hn => h2 ⟨hp, decide_eq_false hn⟩
theorem set_of {o : List Nat} (ho : OrdO o) {A : Ar} {f : Int} {s : Nat} (hs : s < 2 ^ 256) (hr : Rep A f (FnS o s)) (h : lessN s (allN o.length) = 0) : setD o A f = s :=
  setD_rep ho hr hs (less_all hs h) fun _ hp => FnS_asg ho s hp
/-- The order as it is read. -/
theorem ord_sl {ks : List Int} {B : Option Addr} {c : Nat} {w : World} (hord : OrdI ks) (hs : Sl w (.slice B ks.length c) 1 ks.length (intsI ks)) : Sl w (.slice B (natsI ks).length c) 1 (natsI ks).length (intsN (natsI ks)) := by
  rw [natsI_length, intsN_nats fun x hx => (hord.rng x hx).1]
  exact hs
theorem ent21 : enters Try.prog 21 = true := by kernel_rfl
theorem law21_m (ks : List Int) (B : Option Addr) (c : Nat) (s : Nat) (hs : s < 2 ^ 256) (w : World) (hl : ks.length ≤ 9223372036854775807) (hS : Sl w (.slice B ks.length c) 1 ks.length (intsI ks)) :
    Fun Try.prog 21 [.slice B ks.length c, sv s] w fun v w' => v = .bool true ∧ Same w w' := by
  refine fun_of_W (N := 79) Try.func21 ent21 rfl rfl rfl (by simp) ?_
  have H := Hp.start0 w
  refine cut_rule (γ := Nat) _ rfl (fun g => [(3, .pointer (some ⟨g, 0, none⟩))]) (fun g w' => Hp w (fun _ => False) w' [blk g 24 (sc s)] []) ?_ ?_
  · refine H.box 24 (sv s) (cs := sc s) rfl ?_
    clear H
    intro g1 w1 H
    exact ⟨g1, ⟨rfl, trivial⟩, H⟩
  clear H
  rintro g3 u w1 H
  replace H : Hp _ _ _ _ _ := H
  refine cut_rule (γ := Unit) _ rfl (fun _ => []) (fun _ w' => ks.length ≤ 20 ∧ Hp w (fun _ => False) w' [blk g3 24 (sc s)] []) ?_ ?_
  · refine len_sl Try.underlying32 ?_
    refine cond_dec (fun h4 => ?_) (fun h4 => ?_)
    · refine call_fn (c106 _) ?_
      rintro _ w5 ⟨rfl, hk⟩
      replace H := H.same hk
      clear hk
      exact ⟨rfl, H.keeps⟩
    · exact ⟨(), trivial, by omega, H⟩
  clear H
  rintro ⟨⟩ u w2 ⟨h20, H⟩
  replace H : Hp _ _ _ _ _ := H
  refine call_fn (c107 ks B c _ hl (hS.same H.keeps)) ?_
  rintro _ w3 (⟨hno, rfl, hk⟩ | ⟨hord, g, ga, r, co, B', rfl, hn⟩)
  · replace H := H.same hk
    clear hk
    refine bin_eql123z ?_
    iterate 5 refine cond_yes rfl ?_
    refine call_fn (c106 _) ?_
    rintro _ w10 ⟨rfl, hk⟩
    replace H := H.same hk
    clear hk
    refine cond_yes rfl ?_
    exact ⟨rfl, H.keeps⟩
  · replace H := ((H.addNew hn).bdOpen.takeN 2)
    have ho : OrdO (natsI ks) := hord.nats
    have ho8 : (natsI ks).length ≤ 8 := ho.le
    have hkl : (natsI ks).length = ks.length := natsI_length ks
    have hS' := ord_sl hord hS
    have hA0 : BInv (natsI ks).length [] := BInv.nil _
    have hok0 : ArOk 20000 [] := ok_start (by decide) (by decide)
    have hc109 := fun w1 => c109' s (natsI ks).length hs ho8 w1
    rw [hkl] at hc109
    refine bin_eql123 ?_
    iterate 4 refine cond_no rfl ?_
    refine H.loadAll 1 rfl agg24 size24 ?_
    refine call_fn (c108 ho ho8 hs _ hA0 hok0 H.bdAt') ?_
    rintro _ w4 ⟨A1, sv1, f, e, rfl, (⟨hz, rfl, rfl, rfl⟩ | ⟨hz, hm⟩), hok1, ht⟩
    · replace H := H.turnBy 0 rfl ht
      rw [hkl] at hz
      have hzb : (lessN s (allN ks.length) == 0) = false := by simpa using hz
      rw [hzb] at hc109
      refine H.loadAll 1 rfl agg24 size24 ?_
      refine len_sl Try.underlying32 ?_
      refine call_fn (hc109 _) ?_
      rintro _ w7 ⟨rfl, hk⟩
      replace H := H.same hk
      clear hk
      iterate 5 refine cond_yes rfl ?_
      refine call_fn (c106 _) ?_
      rintro _ w13 ⟨rfl, hk⟩
      replace H := H.same hk
      clear hk
      refine cond_yes rfl ?_
      exact ⟨rfl, H.keeps⟩
    · obtain ⟨rfl, hr, hlive⟩ := made_small hm (FnS_low ho s) ho8 (q := 0) (by decide) (by decide)
      replace H := H.turnBy 0 rfl ht
      have hfl := id_lt hok1 hr.there
      have hset := set_of ho hs hr hz
      have hrs := reach_size ho hm.inv hr
      rw [hkl] at hz
      have hzb : (lessN s (allN ks.length) == 0) = true := by simpa using hz
      rw [hzb] at hc109
      have hc := fun w1 hbd => c110b (w := w1) ho f (by omega) hm.inv hok1 (hbd : BdAt w1 g ga r co B' (natsI ks) sv1 20000 A1)
      rw [if_pos hr.there, hset] at hc
      have hc1 := fun w1 hb h => c111 (n := (natsI ks).length) (c := co) (B := B') (g := g) (ga := ga) (r := r) (sv0 := sv1) hok1 f (by omega) w1 hb h
      rw [hrs] at hc1
      have hc2 := fun w1 hO => c112 ho s B c w1 hO
      rw [hkl] at hc2 hS'
      refine H.loadAll 1 rfl agg24 size24 ?_
      refine len_sl Try.underlying32 ?_
      refine call_fn (hc109 _) ?_
      rintro _ w7 ⟨rfl, hk⟩
      replace H := H.same hk
      clear hk
      refine cond_no rfl ?_
      refine call_fn (hc _ H.bdAt') ?_
      rintro _ w9 ⟨rfl, hk⟩
      replace H := H.same hk
      clear hk
      refine H.alloc 24 (cs := sc 0) zero24 sc_zero ?_
      clear H
      intro g10 w10 H
      refine H.storeSet 0 rfl ?_
      clear H
      intro w11 H
      refine H.draw fol (by kernel_rfl) ?_
      clear H
      intro w12 H
      refine cond_yes rfl ?_
      refine quiet _ (fun w H => H.loadAll 0 rfl agg24 size24 ⟨rfl, rfl⟩) ?_
      refine cond_yes rfl ?_
      refine quiet _ (fun w H => H.loadAll 2 rfl agg24 size24 ⟨rfl, rfl⟩) ?_
      refine cond_yes rfl ?_
      refine quiet _ (fun w H => bin_eql24 (by first | assumption | decide) (by first | assumption | decide) ⟨rfl, rfl⟩) ?_
      refine cond_yes rfl ?_
      iterate 3 refine cond_yes (beq_self_eq_true _) ?_
      iterate 3 refine cond_yes rfl ?_
      refine call_fn (hc1 _ (H.ro 0 rfl) (H.get 1 rfl)) ?_
      rintro _ w27 ⟨rfl, hk⟩
      replace H := H.same hk
      refine ⟨.inl H, ?_⟩
      refine cond_yes rfl ?_
      refine quiet _ (fun w H => H.loadAll 2 rfl agg24 size24 ⟨rfl, rfl⟩) ?_
      iterate 2 refine cond_yes rfl ?_
      refine call_fn (hc2 _ (hS'.same H.keeps)) ?_
      rintro _ w33 ⟨rfl, hk⟩
      replace H := H.same hk
      refine ⟨.inl H, ?_⟩
      iterate 2 refine cond_yes rfl ?_
      refine cond_yes (beq_self_eq_true _) ?_
      refine call_fn (c106 _) ?_
      rintro _ w38 ⟨rfl, hk⟩
      replace H := H.same hk
      clear hk
      refine ⟨.inl H, ?_⟩
      refine cond_yes (beq_self_eq_true _) ?_
      exact ⟨rfl, H.keeps⟩
theorem law21 (v : Value) (s : Nat) (hs : s < 2 ^ 256) (w : World) {ks : List Int} (hk : IntsAt w v ks) : Fun Try.prog 21 [v, sv s] w fun v w' => v = .bool true ∧ Same w w' := by
  obtain ⟨B, c, rfl, hl, _, hS⟩ := hk
  exact law21_m ks B c s hs w hl hS
end Go.Proofs.Ytjebpngdinbckaa
end

section
/- Law 22. -/
namespace Go.Proofs.Ytjebpngdinbckaa
open Go.Dk
attribute [local irreducible] IntKind.wrap

theorem and_set {o : List Nat} (ho : OrdO o) {A : Ar} {x : Int} {r s : Nat} (hr : r < 2 ^ 256) (hrz : lessN r (allN o.length) = 0) (h : Rep A x fun a => FnS o r a && FnS o s a) : setD o A x = r &&& s :=
  setD_rep ho h (Nat.lt_of_le_of_lt Nat.and_le_left hr) (fun p hp => by
    rw [Nat.testBit_and, Bool.and_eq_true] at hp
    exact less_all hr hrz p hp.1) (fun p hp => by rw [FnS_asg ho r hp, FnS_asg ho s hp, Nat.testBit_and])
theorem ite_and {A : Ar} {f h : Int} {F G : Dk.Fn} (hf : Rep A f F) (hh : Rep A h G) : iteF A f h 0 = fun a => F a && G a := by
  funext a
  unfold iteF
  rw [hf.says, hh.says, sem_none (nd_end (.inl rfl))]
  cases F a <;> rfl
theorem end_there (A : Ar) : 0 ≤ lvlA A 0 := by rw [lvl_end (.inl rfl)]; decide
theorem one_there (A : Ar) : 0 ≤ lvlA A 1 := by rw [lvl_end (.inr rfl)]; decide
theorem ent22 : enters Try.prog 22 = true := by kernel_rfl
theorem law22_m (ks : List Int) (B : Option Addr) (c : Nat) (r s : Nat) (hr : r < 2 ^ 256) (hs : s < 2 ^ 256) (little : Nat) (hlit : little < 256) (w : World) (hl : ks.length ≤ 9223372036854775807) (hS : Sl w (.slice B ks.length c) 1 ks.length (intsI ks)) :
    Fun Try.prog 22 [.slice B ks.length c, sv r, sv s, .int .u8 (little : Int)] w fun v w' => v = .bool true ∧ Same w w' := by
  refine fun_of_W (N := 153) Try.func22 ent22 rfl rfl rfl (by simp) ?_
  have H := Hp.start0 w
  refine cut_rule (γ := Nat × Nat) _ rfl (fun (g5, g6) => [(5, .pointer (some ⟨g5, 0, none⟩)), (6, .pointer (some ⟨g6, 0, none⟩))]) (fun (g5, g6) w' => Hp w (fun _ => False) w' [blk g6 24 (sc s), blk g5 24 (sc r)] []) ?_ ?_
  · refine H.box 24 (sv r) (cs := sc r) rfl ?_
    clear H
    intro g5 w1 H
    refine H.box 24 (sv s) (cs := sc s) rfl ?_
    clear H
    intro g6 w1 H
    exact ⟨(g5, g6), ⟨rfl, rfl, trivial⟩, H⟩
  clear H
  rintro ⟨g5, g6⟩ u w1 H
  replace H : Hp _ _ _ _ _ := H
  refine cut_rule (γ := Unit) _ rfl (fun _ => []) (fun _ w' => (OrdI ks ∧ lessN r (allN ks.length) = 0 ∧ lessN s (allN ks.length) = 0) ∧ Hp w (fun _ => False) w' [blk g6 24 (sc s), blk g5 24 (sc r)] []) ?_ ?_
  · by_cases h20 : (20 : Int) < ks.length
    · refine len_sl Try.underlying32 ?_
      iterate 4 refine cond_yes (decide_eq_true (by assumption)) ?_
      iterate 13 refine cond_yes rfl ?_
      refine call_fn (c106 _) ?_
      rintro _ w23 ⟨rfl, hk⟩
      replace H := H.same hk
      clear hk
      exact ⟨rfl, H.keeps⟩
    have hc := fun w1 hs => c101 ks B c w1 hl hs
    by_cases hord : OrdI ks
    · rw [(ordB_iff ks).2 hord] at hc
      have h8 := hord.le
      have hr1 := fun w1 => c109' r ks.length hr h8 w1
      have hs1 := fun w1 => c109' s ks.length hs h8 w1
      by_cases hz : lessN r (allN ks.length) = 0
      · have hzb : (lessN r (allN ks.length) == 0) = true := by simpa using hz
        rw [hzb] at hr1
        by_cases hz2 : lessN s (allN ks.length) = 0
        · have hzb : (lessN s (allN ks.length) == 0) = true := by simpa using hz2
          rw [hzb] at hs1
          refine len_sl Try.underlying32 ?_
          iterate 2 refine cond_no (decide_eq_false (by assumption)) ?_
          refine call_fn (hc _ (hS.same H.keeps)) ?_
          rintro _ w7 ⟨rfl, hk⟩
          replace H := H.same hk
          clear hk
          iterate 2 refine cond_no (decide_eq_false (by assumption)) ?_
          refine cond_no rfl ?_
          refine H.loadAll 1 rfl agg24 size24 ?_
          iterate 2 refine cond_no rfl ?_
          refine len_sl Try.underlying32 ?_
          refine cond_no rfl ?_
          refine call_fn (hr1 _) ?_
          rintro _ w17 ⟨rfl, hk⟩
          replace H := H.same hk
          clear hk
          iterate 3 refine cond_no rfl ?_
          refine H.loadAll 0 rfl agg24 size24 ?_
          iterate 2 refine cond_no rfl ?_
          refine len_sl Try.underlying32 ?_
          refine cond_no rfl ?_
          refine call_fn (hs1 _) ?_
          rintro _ w27 ⟨rfl, hk⟩
          replace H := H.same hk
          clear hk
          iterate 3 refine cond_no rfl ?_
          exact ⟨(), trivial, ⟨hord, hz, hz2⟩, H⟩
        · have hzb : (lessN s (allN ks.length) == 0) = false := by simpa using hz2
          rw [hzb] at hs1
          refine len_sl Try.underlying32 ?_
          iterate 2 refine cond_no (decide_eq_false (by assumption)) ?_
          refine call_fn (hc _ (hS.same H.keeps)) ?_
          rintro _ w7 ⟨rfl, hk⟩
          replace H := H.same hk
          clear hk
          iterate 2 refine cond_no (decide_eq_false (by assumption)) ?_
          refine cond_no rfl ?_
          refine H.loadAll 1 rfl agg24 size24 ?_
          iterate 2 refine cond_no rfl ?_
          refine len_sl Try.underlying32 ?_
          refine cond_no rfl ?_
          refine call_fn (hr1 _) ?_
          rintro _ w17 ⟨rfl, hk⟩
          replace H := H.same hk
          clear hk
          iterate 3 refine cond_no rfl ?_
          refine H.loadAll 0 rfl agg24 size24 ?_
          iterate 2 refine cond_no rfl ?_
          refine len_sl Try.underlying32 ?_
          refine cond_no rfl ?_
          refine call_fn (hs1 _) ?_
          rintro _ w27 ⟨rfl, hk⟩
          replace H := H.same hk
          clear hk
          iterate 2 refine cond_no rfl ?_
          refine cond_yes rfl ?_
          refine call_fn (c106 _) ?_
          rintro _ w31 ⟨rfl, hk⟩
          replace H := H.same hk
          clear hk
          exact ⟨rfl, H.keeps⟩
      · have hzb : (lessN r (allN ks.length) == 0) = false := by simpa using hz
        rw [hzb] at hr1
        refine len_sl Try.underlying32 ?_
        iterate 2 refine cond_no (decide_eq_false (by assumption)) ?_
        refine call_fn (hc _ (hS.same H.keeps)) ?_
        rintro _ w7 ⟨rfl, hk⟩
        replace H := H.same hk
        clear hk
        iterate 2 refine cond_no (decide_eq_false (by assumption)) ?_
        refine cond_no rfl ?_
        refine H.loadAll 1 rfl agg24 size24 ?_
        iterate 2 refine cond_no rfl ?_
        refine len_sl Try.underlying32 ?_
        refine cond_no rfl ?_
        refine call_fn (hr1 _) ?_
        rintro _ w17 ⟨rfl, hk⟩
        replace H := H.same hk
        clear hk
        iterate 2 refine cond_no rfl ?_
        iterate 7 refine cond_yes rfl ?_
        refine call_fn (c106 _) ?_
        rintro _ w28 ⟨rfl, hk⟩
        replace H := H.same hk
        clear hk
        exact ⟨rfl, H.keeps⟩
    · have hb : orderB ks = false := by rw [Bool.eq_false_iff]; exact fun h => hord ((ordB_iff ks).1 h)
      rw [hb] at hc
      refine len_sl Try.underlying32 ?_
      iterate 2 refine cond_no (decide_eq_false (by assumption)) ?_
      refine call_fn (hc _ (hS.same H.keeps)) ?_
      rintro _ w7 ⟨rfl, hk⟩
      replace H := H.same hk
      clear hk
      iterate 2 refine cond_no (decide_eq_false (by assumption)) ?_
      iterate 13 refine cond_yes rfl ?_
      refine call_fn (c106 _) ?_
      rintro _ w24 ⟨rfl, hk⟩
      replace H := H.same hk
      clear hk
      exact ⟨rfl, H.keeps⟩
  clear H
  rintro ⟨⟩ u w2 ⟨⟨hord, hrz, hsz⟩, H⟩
  replace H : Hp _ _ _ _ _ := H
  have ho : OrdO (natsI ks) := hord.nats
  have ho8 : (natsI ks).length ≤ 8 := ho.le
  have hkl : (natsI ks).length = ks.length := natsI_length ks
  have hS' := ord_sl hord hS
  rw [← hkl] at hrz hsz
  have hA0 : BInv (natsI ks).length [] := BInv.nil _
  have hok0 : ArOk (little : Int) [] := ok_start (by omega) (by omega)
  refine cut_rule (γ := Nat × Nat × Nat × Nat × Option Addr) _ rfl (fun (g, _) => [(9, .pointer (some ⟨g, 0, none⟩)), (10, .int .i64 0)]) (fun (g, ga, q, co, B') w' => Hp w (fun _ => False) w' [arR ga q (.slice none 0 0) little [], blk g6 24 (sc s), blk g5 24 (sc r)] (bdM g ga co B' (natsI ks) ++ [])) ?_ ?_
  · refine conv_i64 (by kernel_rfl) Try.underlying3 (by omega) (by omega) ?_
    refine call_fn (c113 ks B c little _ hl (hS.same H.keeps)) ?_
    rintro _ w5 (⟨h, _⟩ | ⟨_, _, _, g, ga, q, co, B', rfl, hn⟩)
    · rcases h with h | h | h
      · exact absurd hord h
      · omega
      · omega
    · exact ⟨(g, ga, q, co, B'), ⟨rfl, rfl, trivial⟩, (H.addNew hn).bdOpen.takeN 3⟩
  clear H
  rintro ⟨g, ga, q, co, B'⟩ u w3 H
  replace H : Hp _ _ _ _ _ := H
  refine cut_rule (γ := Unit) _ rfl (fun _ => []) (fun _ w' => Hp w (fun _ => False) w' [arR ga q (.slice none 0 0) little [], blk g6 24 (sc s), blk g5 24 (sc r)] (bdM g ga co B' (natsI ks) ++ [])) ?_ ?_
  · refine bin_eql123 ?_
    iterate 4 refine cond_no rfl ?_
    exact ⟨(), trivial, H⟩
  clear H
  rintro ⟨⟩ u w4 H
  replace H : Hp _ _ _ _ _ := H
  refine cut_rule (γ := Int × Int × Value × Ar) _ rfl (fun (f, e, _) => [(11, .int .i64 f), (12, .int .i64 e)]) (fun (f, e, sv1, A1) w' => (ArOk (little : Int) A1 ∧ Made (natsI ks).length little [] A1 (FnS (natsI ks) r) f e) ∧ Hp w (fun _ => False) w' [arR ga q sv1 little A1, blk g6 24 (sc s), blk g5 24 (sc r)] (bdM g ga co B' (natsI ks) ++ [])) ?_ ?_
  · refine H.loadAll 2 rfl agg24 size24 ?_
    refine call_fn (c108 ho ho8 hr _ hA0 hok0 H.bdAt') ?_
    rintro _ w5 ⟨A1, sv1, f, e, rfl, (⟨h, _⟩ | ⟨_, hm⟩), hok1, ht⟩
    · exact absurd hrz h
    · exact ⟨(f, e, sv1, A1), ⟨rfl, rfl, trivial⟩, ⟨hok1, hm⟩, H.turnBy 0 rfl ht⟩
  clear H hok0
  rintro ⟨f, e, sv1, A1⟩ u w5 ⟨⟨hok1, hm1⟩, H⟩
  replace H : Hp _ _ _ _ _ := H
  refine cut_rule (γ := Unit) _ rfl (fun _ => []) (fun _ w' => e = 0 ∧ Hp w (fun _ => False) w' [arR ga q sv1 little A1, blk g6 24 (sc s), blk g5 24 (sc r)] (bdM g ga co B' (natsI ks) ++ [])) ?_ ?_
  · refine cond_bne (fun he => ?_) (fun he => ?_)
    · obtain ⟨rfl, rfl, hlt⟩ := made_lack ho hm1 he
      have hc := fun w1 hO => c112 ho r B c w1 hO
      rw [hkl] at hc hS'
      iterate 4 refine cond_yes rfl ?_
      refine H.loadAll 2 rfl agg24 size24 ?_
      iterate 2 refine cond_yes rfl ?_
      refine call_fn (hc _ (hS'.same H.keeps)) ?_
      rintro _ w14 ⟨rfl, hk⟩
      replace H := H.same hk
      clear hk
      iterate 2 refine cond_yes rfl ?_
      refine conv_i64 (by kernel_rfl) Try.underlying3 (by omega) (by omega) ?_
      iterate 2 refine cond_yes rfl ?_
      refine cond_yes (decide_eq_true (by assumption)) ?_
      refine call_fn (c106 _) ?_
      rintro _ w21 ⟨rfl, hk⟩
      replace H := H.same hk
      clear hk
      refine cond_yes (decide_eq_true (by assumption)) ?_
      exact ⟨rfl, H.keeps⟩
    · exact ⟨(), trivial, he, H⟩
  clear H
  rintro ⟨⟩ u w6 ⟨rfl, H⟩
  replace H : Hp _ _ _ _ _ := H
  have hrep1 := hm1.ok
  refine cut_rule (γ := Int × Int × Value × Ar) _ rfl (fun (h, i, _) => [(13, .int .i64 h), (14, .int .i64 i)]) (fun (h, i, sv2, A2) w' => (ArOk (little : Int) A2 ∧ Made (natsI ks).length little A1 A2 (FnS (natsI ks) s) h i) ∧ Hp w (fun _ => False) w' [arR ga q sv2 little A2, blk g6 24 (sc s), blk g5 24 (sc r)] (bdM g ga co B' (natsI ks) ++ [])) ?_ ?_
  · refine H.loadAll 1 rfl agg24 size24 ?_
    refine call_fn (c108 ho ho8 hs _ hm1.inv hok1 H.bdAt') ?_
    rintro _ w5 ⟨A2, sv2, h, i, rfl, (⟨h, _⟩ | ⟨_, hm⟩), hok2, ht⟩
    · exact absurd hsz h
    · exact ⟨(h, i, sv2, A2), ⟨rfl, rfl, trivial⟩, ⟨hok2, hm⟩, H.turnBy 0 rfl ht⟩
  clear H
  rintro ⟨h, i, sv2, A2⟩ u w7 ⟨⟨hok2, hm2⟩, H⟩
  replace H : Hp _ _ _ _ _ := H
  have hrep2 := hrep1.ext hm1.inv.inv hm2.inv.inv hm2.ext
  have hfl := id_lt hok2 hrep2.there
  have hhl := made_id hm2 hok2
  have th : 0 ≤ lvlA A2 h := by
    rcases hm2.res with ⟨_, h⟩ | ⟨_, rfl, _⟩
    · exact h.there
    · exact end_there A2
  refine cut_rule (γ := Int × Int × Value × Ar) _ rfl (fun (x, k, _) => [(15, .int .i64 x), (16, .int .i64 k)]) (fun (x, k, sv3, A3) w' => (ArOk (little : Int) A3 ∧ Made (natsI ks).length little A2 A3 (iteF A2 f h 0) x k) ∧ Hp w (fun _ => False) w' [arR ga q sv3 little A3, blk g6 24 (sc s), blk g5 24 (sc r)] (bdM g ga co B' (natsI ks) ++ [])) ?_ ?_
  · refine call_fn (c114 ho8 f h (by omega) (by omega) _ hm2.inv hok2 H.bdAt') ?_
    rintro _ w5 ⟨A3, sv3, x, k, rfl, hm, hok3, ht⟩
    exact ⟨(x, k, sv3, A3), ⟨rfl, rfl, trivial⟩, ⟨hok3, hm.made hrep2.there th (end_there A2)⟩, H.turnBy 0 rfl ht⟩
  clear H
  rintro ⟨x, k, sv3, A3⟩ u w8 ⟨⟨hok3, hm3⟩, H⟩
  replace H : Hp _ _ _ _ _ := H
  have hrep3 := hrep2.ext hm2.inv.inv hm3.inv.inv hm3.ext
  refine cut_rule (γ := Nat) _ rfl (fun g17 => [(17, .pointer (some ⟨g17, 0, none⟩))]) (fun g17 w' => Hp w (fun _ => False) w' [arR ga q sv3 little A3, blk g17 24 (sc r), blk g6 24 (sc s), blk g5 24 (sc r)] (bdM g ga co B' (natsI ks) ++ [])) ?_ ?_
  · have hc := c110b ho f (by omega) _ hm3.inv hok3 H.bdAt'
    rw [if_pos hrep3.there, set_of ho hr hrep3 hrz] at hc
    refine call_fn hc ?_
    rintro _ w9 ⟨rfl, hk⟩
    replace H := H.same hk
    clear hk
    refine H.alloc 24 (cs := sc 0) zero24 sc_zero ?_
    clear H
    intro g5 w4 H
    refine H.storeSet 0 rfl ?_
    clear H
    intro w5 H
    exact ⟨g5, ⟨rfl, trivial⟩, H.front 1 rfl⟩
  clear H
  rintro g17 u w9 H
  replace H : Hp _ _ _ _ _ := H
  have hi : i = 0 ∨ (i = 5 ∧ h = 0) := by
    rcases hm2.res with ⟨h, _⟩ | ⟨h1, h2, _⟩
    · exact .inl h
    · exact .inr ⟨h1, h2⟩
  have hk : k = 0 ∨ (k = 5 ∧ x = 0) := by
    rcases hm3.res with ⟨h, _⟩ | ⟨h1, h2, _⟩
    · exact .inl h
    · exact .inr ⟨h1, h2⟩
  refine cut_rule (γ := Unit) _ rfl (fun _ => []) (fun _ w' => Hp w (fun _ => False) w' [arR ga q sv3 little A3, blk g17 24 (sc r), blk g6 24 (sc s), blk g5 24 (sc r)] (bdM g ga co B' (natsI ks) ++ [])) ?_ ?_
  · rcases hi with rfl | ⟨rfl, rfl⟩ <;> rcases hk with rfl | ⟨rfl, rfl⟩
    · refine H.loadAll 1 rfl agg24 size24 ?_
      refine H.loadAll 3 rfl agg24 size24 ?_
      refine bin_neq24 (by first | assumption | decide) (by first | assumption | decide) ?_
      iterate 3 refine cond_no (bne_eq_false_iff_eq.2 (by omega)) ?_
      iterate 2 refine cond_no rfl ?_
      refine cond_no (bne_eq_false_iff_eq.2 (by omega)) ?_
      refine cond_no rfl ?_
      refine cond_no (bne_eq_false_iff_eq.2 (by omega)) ?_
      iterate 9 refine cond_no rfl ?_
      exact ⟨(), trivial, H⟩
    · refine H.loadAll 1 rfl agg24 size24 ?_
      refine H.loadAll 3 rfl agg24 size24 ?_
      refine bin_neq24 (by first | assumption | decide) (by first | assumption | decide) ?_
      iterate 3 refine cond_no (bne_eq_false_iff_eq.2 (by omega)) ?_
      iterate 2 refine cond_no rfl ?_
      refine cond_no (bne_eq_false_iff_eq.2 (by omega)) ?_
      refine cond_no rfl ?_
      refine cond_no (bne_eq_false_iff_eq.2 (by omega)) ?_
      iterate 3 refine cond_no rfl ?_
      iterate 2 refine cond_yes rfl ?_
      refine cond_no rfl ?_
      refine cond_yes rfl ?_
      iterate 2 refine cond_no rfl ?_
      exact ⟨(), trivial, H⟩
    · refine H.loadAll 1 rfl agg24 size24 ?_
      refine H.loadAll 3 rfl agg24 size24 ?_
      refine bin_neq24 (by first | assumption | decide) (by first | assumption | decide) ?_
      iterate 3 refine cond_no (bne_eq_false_iff_eq.2 (by omega)) ?_
      iterate 2 refine cond_yes rfl ?_
      refine cond_no (bne_eq_false_iff_eq.2 (by omega)) ?_
      refine cond_yes rfl ?_
      refine cond_no (bne_eq_false_iff_eq.2 (by omega)) ?_
      iterate 9 refine cond_no rfl ?_
      exact ⟨(), trivial, H⟩
    · refine H.loadAll 1 rfl agg24 size24 ?_
      refine H.loadAll 3 rfl agg24 size24 ?_
      refine bin_neq24 (by first | assumption | decide) (by first | assumption | decide) ?_
      iterate 3 refine cond_no (bne_eq_false_iff_eq.2 (by omega)) ?_
      iterate 2 refine cond_yes rfl ?_
      refine cond_no (bne_eq_false_iff_eq.2 (by omega)) ?_
      refine cond_yes rfl ?_
      refine cond_no (bne_eq_false_iff_eq.2 (by omega)) ?_
      iterate 3 refine cond_no rfl ?_
      iterate 2 refine cond_yes rfl ?_
      refine cond_no rfl ?_
      refine cond_yes rfl ?_
      iterate 2 refine cond_no rfl ?_
      exact ⟨(), trivial, H⟩
  clear H
  rintro ⟨⟩ u w10 H
  replace H : Hp _ _ _ _ _ := H
  refine cut_rule (γ := Unit) _ rfl (fun _ => []) (fun _ w' => (i = 0 ∧ k = 0) ∧ Hp w (fun _ => False) w' [arR ga q sv3 little A3, blk g17 24 (sc r), blk g6 24 (sc s), blk g5 24 (sc r)] (bdM g ga co B' (natsI ks) ++ [])) ?_ ?_
  · rcases hi with rfl | ⟨rfl, rfl⟩ <;> rcases hk with rfl | ⟨rfl, rfl⟩
    · iterate 4 refine cond_no rfl ?_
      exact ⟨(), trivial, ⟨rfl, rfl⟩, H⟩
    · iterate 3 refine cond_no rfl ?_
      refine cond_yes rfl ?_
      iterate 6 refine cond_no rfl ?_
      refine cond_yes rfl ?_
      refine call_fn (c106 _) ?_
      rintro _ w23 ⟨rfl, hk⟩
      replace H := H.same hk
      clear hk
      refine cond_yes rfl ?_
      exact ⟨rfl, H.keeps⟩
    · iterate 11 refine cond_yes rfl ?_
      refine call_fn (c106 _) ?_
      rintro _ w23 ⟨rfl, hk⟩
      replace H := H.same hk
      clear hk
      refine cond_yes rfl ?_
      exact ⟨rfl, H.keeps⟩
    · iterate 11 refine cond_yes rfl ?_
      refine call_fn (c106 _) ?_
      rintro _ w23 ⟨rfl, hk⟩
      replace H := H.same hk
      clear hk
      refine cond_yes rfl ?_
      exact ⟨rfl, H.keeps⟩
  clear H
  rintro ⟨⟩ u w10 ⟨⟨rfl, rfl⟩, H⟩
  replace H : Hp _ _ _ _ _ := H
  have hrx := hm3.ok
  rw [ite_and hrep2 hm2.ok] at hrx
  have hset := and_set ho hr hrz hrx
  have hxl := id_lt hok3 hrx.there
  refine cut_rule (γ := Nat) _ rfl (fun g19 => [(19, .pointer (some ⟨g19, 0, none⟩))]) (fun g19 w' => Hp w (fun _ => False) w' [blk g19 24 (sc (r &&& s)), blk g6 24 (sc s), blk g5 24 (sc r)] (bdM g ga co B' (natsI ks) ++ [])) ?_ ?_
  · have hc := c110b ho x (by omega) _ hm3.inv hok3 H.bdAt'
    rw [if_pos hrx.there, hset] at hc
    refine call_fn hc ?_
    rintro _ w9 ⟨rfl, hk⟩
    replace H := H.same hk
    clear hk
    refine H.alloc 24 (cs := sc 0) zero24 sc_zero ?_
    clear H
    intro g5 w4 H
    refine H.storeSet 0 rfl ?_
    clear H
    intro w5 H
    exact ⟨g5, ⟨rfl, trivial⟩, (((H.front 1 rfl).forget.front 1 rfl).forget.front 0 rfl)⟩
  clear H
  rintro g19 u w11 H
  replace H : Hp _ _ _ _ _ := H
  refine H.draw fol (by kernel_rfl) ?_
  clear H
  intro w12 H
  refine quiet _ (fun w H => H.loadAll 0 rfl agg24 size24 ⟨rfl, rfl⟩) ?_
  refine quiet _ (fun w H => H.loadAll 2 rfl agg24 size24 ⟨rfl, rfl⟩) ?_
  refine quiet _ (fun w H => H.loadAll 1 rfl agg24 size24 ⟨rfl, rfl⟩) ?_
  refine call_fn (c51 _ _ _) ?_
  rintro _ w16 ⟨rfl, hk⟩
  replace H := H.same hk
  clear hk
  refine ⟨.inl H, ?_⟩
  have hand : r &&& s < 2 ^ 256 := Nat.lt_of_le_of_lt Nat.and_le_left hr
  refine quiet _ (fun w H => bin_eql24 (by first | assumption | decide) (by first | assumption | decide) ⟨rfl, rfl⟩) ?_
  refine cond_yes (beq_self_eq_true _) ?_
  refine call_fn (c106 _) ?_
  rintro _ w15 ⟨rfl, hk⟩
  replace H := H.same hk
  clear hk
  refine ⟨.inl H, ?_⟩
  refine cond_yes (beq_self_eq_true _) ?_
  exact ⟨rfl, H.keeps⟩
theorem law22 (v : Value) (r : Nat) (hr : r < 2 ^ 256) (s : Nat) (hs : s < 2 ^ 256) (little : Nat) (hlit : little < 256) (w : World) {ks : List Int} (hk : IntsAt w v ks) : Fun Try.prog 22 [v, sv r, sv s, .int .u8 (little : Int)] w fun v w' => v = .bool true ∧ Same w w' := by
  obtain ⟨B, c, rfl, hl, _, hS⟩ := hk
  exact law22_m ks B c r s hr hs little hlit w hl hS
end Go.Proofs.Ytjebpngdinbckaa
end

section
/- Law 23. -/
namespace Go.Proofs.Ytjebpngdinbckaa
open Go.Dk
attribute [local irreducible] IntKind.wrap

theorem live_sweep {A : Ar} (h : ArInv A) (ids : List Int) : liveA (sweepA A ids) ≤ liveA A := by
  rw [live_range A A.length (Nat.le_refl _), live_range (sweepA A ids) A.length (by unfold sweepA; rw [sweepTo_length]; exact Nat.le_refl _), ← List.countP_eq_length_filter, ← List.countP_eq_length_filter]
  refine List.countP_mono_left fun i _ hi => ?_
  obtain ⟨d, hd⟩ := Option.isSome_iff_exists.1 hi
  rw [((slot_sweep h ids i d).1 hd).1]; rfl
theorem binv_sweep {n : Nat} {A : Ar} (h : BInv n A) (ids : List Int) : BInv n (sweepA A ids) :=
  ⟨inv_sweep h.inv ids, fun i d hs => h.lt i d ((slot_sweep h.inv ids i d).1 hs).1, fun i d hs => h.ne i d ((slot_sweep h.inv ids i d).1 hs).1⟩
theorem sweep_sem {A : Ar} (h : ArInv A) (ids : List Int) (a : Asg) : ∀ id, (∀ x, Rch A id x → ∃ k ∈ ids, Rch A k x) → sem (sweepA A ids) id a = sem A id a := by
  refine lvl_induct h (fun id hd _ => ?_) (fun id d hd ih1 ih2 hr => ?_)
  · have : ndA (sweepA A ids) id = none := by
      cases hn : ndA (sweepA A ids) id with
      | none => rfl
      | some d =>
        obtain ⟨i, rfl, hs⟩ := nd_place hn
        have := ((slot_sweep h ids i d).1 hs).1
        rw [nd_slot, this] at hd; cases hd
    rw [sem_none hd, sem_none this]
  · obtain ⟨i, rfl, hs⟩ := nd_place hd
    have hi := fun x => rch_iff (x := x) hs
    have hk : slot (sweepA A ids) i = some d := (slot_sweep h ids i d).2 ⟨hs, hr i ((hi i).2 (.inl rfl))⟩
    have hd' : ndA (sweepA A ids) ((i : Int) + 2) = some d := by rw [nd_slot]; exact hk
    rw [sem_node h hd, sem_node (inv_sweep h ids) hd']
    split
    · exact ih2 fun x hx => hr x ((hi x).2 (.inr (.inr hx)))
    · exact ih1 fun x hx => hr x ((hi x).2 (.inr (.inl hx)))
theorem sweep_rep {A : Ar} (h : ArInv A) {ids : List Int} {f : Int} (hf : f ∈ ids) {F : Dk.Fn} (hr : Rep A f F) : Rep (sweepA A ids) f F := by
  refine ⟨?_, fun a => by rw [sweep_sem h ids a f fun x hx => ⟨f, hf, hx⟩]; exact hr.says a⟩
  rcases lvlA_node hr.there with rfl | rfl | ⟨i, d, rfl, hs, _⟩
  · exact end_there _
  · exact one_there _
  · have hk : slot (sweepA A ids) i = some d := (slot_sweep h ids i d).2 ⟨hs, _, hf, (rch_iff hs).2 (.inl rfl)⟩
    rw [lvlA_slot hk]; omega
theorem rep_or {A : Ar} {f g : Int} {F G : Dk.Fn} (hf : Rep A f F) (hg : Rep A g G) : iteF A f 1 g = fun a => F a || G a := by
  funext a
  unfold iteF
  rw [hf.says, hg.says, sem_none (nd_end (.inr rfl))]
  cases F a <;> rfl
theorem FnS_eq {o : List Nat} (ho : OrdO o) {r s : Nat} (hr : r < 2 ^ 256) (hs : s < 2 ^ 256) (hrz : lessN r (allN o.length) = 0) (hsz : lessN s (allN o.length) = 0) : (∀ a, FnS o r a = FnS o s a) ↔ r = s :=
  ⟨FnS_inj ho hr hs (less_all hr hrz) (less_all hs hsz), fun h a => by rw [h]⟩
theorem or_and {F G : Dk.Fn} : (∀ a, (F a || G a) = (F a && G a)) ↔ ∀ a, F a = G a := by
  constructor
  · intro h a
    have := h a
    cases hF : F a <;> cases hG : G a <;> rw [hF, hG] at this <;> first | rfl | (exact absurd this (by decide))
  · intro h a
    rw [h a]
    cases G a <;> rfl
theorem blk_sl {w : World} {g : Nat} {t : TypeId} {cs : Array Value} {n : Nat} (h : (blk g t cs).ok w) (hn : cs.size = n) (hm : n ≤ maxLen) : (sl (fun x => x = g) (.slice (some ⟨g, 0, none⟩) n n) 1 n cs.toList).ok w := by
  subst hn
  have h2 : (own t 1 (.slice (some ⟨g, 0, none⟩) cs.size cs.size) cs.size cs.toList).ok w := ⟨by simp, .inr ⟨g, cs.size, cs, rfl, Nat.zero_le _, h, Nat.le_refl _, hm, by simp, by rw [Nat.mul_one, ← Array.length_toList]; exact List.take_length⟩⟩
  exact sl.mono (own_sl h2) fun x hx => by
    have hx : some g = some x := hx
    injection hx with hx
    exact hx.symm
theorem ent23 : enters Try.prog 23 = true := by kernel_rfl
theorem law23_m (ks : List Int) (B : Option Addr) (c : Nat) (r s t : Nat) (hr : r < 2 ^ 256) (hs : s < 2 ^ 256) (ht : t < 2 ^ 256) (w : World) (hl : ks.length ≤ 9223372036854775807) (hS : Sl w (.slice B ks.length c) 1 ks.length (intsI ks)) :
    Fun Try.prog 23 [.slice B ks.length c, sv r, sv s, sv t] w fun v w' => v = .bool true ∧ Same w w' := by
  refine fun_of_W (N := 137) Try.func23 ent23 rfl rfl rfl (by simp) ?_
  have H := Hp.start0 w
  refine cut_rule (γ := Nat × Nat × Nat) _ rfl (fun (g5, g6, g7) => [(5, .pointer (some ⟨g5, 0, none⟩)), (6, .pointer (some ⟨g6, 0, none⟩)), (7, .pointer (some ⟨g7, 0, none⟩))]) (fun (g5, g6, g7) w' => Hp w (fun _ => False) w' [blk g7 24 (sc t), blk g6 24 (sc s), blk g5 24 (sc r)] []) ?_ ?_
  · refine H.box 24 (sv r) (cs := sc r) rfl ?_
    clear H
    intro g5 w1 H
    refine H.box 24 (sv s) (cs := sc s) rfl ?_
    clear H
    intro g6 w1 H
    refine H.box 24 (sv t) (cs := sc t) rfl ?_
    clear H
    intro g7 w1 H
    exact ⟨(g5, g6, g7), ⟨rfl, rfl, rfl, trivial⟩, H⟩
  clear H
  rintro ⟨g5, g6, g7⟩ u w1 H
  replace H : Hp _ _ _ _ _ := H
  refine cut_rule (γ := Unit) _ rfl (fun _ => []) (fun _ w' => ks.length ≤ 20 ∧ Hp w (fun _ => False) w' [blk g7 24 (sc t), blk g6 24 (sc s), blk g5 24 (sc r)] []) ?_ ?_
  · refine len_sl Try.underlying32 ?_
    refine cond_dec (fun h3 => ?_) (fun h3 => ?_)
    · refine call_fn (c106 _) ?_
      rintro _ w4 ⟨rfl, hk⟩
      replace H := H.same hk
      clear hk
      exact ⟨rfl, H.keeps⟩
    · exact ⟨(), trivial, by omega, H⟩
  clear H
  rintro ⟨⟩ u w2 ⟨h20, H⟩
  replace H : Hp _ _ _ _ _ := H
  refine call_fn (c107 ks B c _ hl (hS.same H.keeps)) ?_
  rintro _ w3 (⟨hno, rfl, hk⟩ | ⟨hord, g, ga, q, co, B', rfl, hn⟩)
  · replace H := H.same hk
    clear hk
    refine bin_eql123z ?_
    iterate 5 refine cond_yes rfl ?_
    refine call_fn (c106 _) ?_
    rintro _ w13 ⟨rfl, hk⟩
    replace H := H.same hk
    clear hk
    refine cond_yes rfl ?_
    exact ⟨rfl, H.keeps⟩
  replace H := (H.addNew hn).bdOpen.takeN 4
  have ho : OrdO (natsI ks) := hord.nats
  have ho8 : (natsI ks).length ≤ 8 := ho.le
  have hkl : (natsI ks).length = ks.length := natsI_length ks
  have hS' := ord_sl hord hS
  have hA0 : BInv (natsI ks).length [] := BInv.nil _
  have hok0 : ArOk 20000 [] := ok_start (by decide) (by decide)
  refine cut_rule (γ := Unit) _ rfl (fun _ => [(9, .pointer (some ⟨g, 0, none⟩))]) (fun _ w' => Hp w (fun _ => False) w' [arR ga q (.slice none 0 0) 20000 [], blk g7 24 (sc t), blk g6 24 (sc s), blk g5 24 (sc r)] (bdM g ga co B' (natsI ks) ++ [])) ?_ ?_
  · refine bin_eql123 ?_
    iterate 4 refine cond_no rfl ?_
    exact ⟨(), ⟨rfl, trivial⟩, H⟩
  clear H
  rintro ⟨⟩ u w4 H
  replace H : Hp _ _ _ _ _ := H
  refine cut_rule (γ := Unit) _ rfl (fun _ => [(11, .int .i64 ((natsI ks).length : Int))]) (fun _ w' => Hp w (fun _ => False) w' [arR ga q (.slice none 0 0) 20000 [], blk g7 24 (sc t), blk g6 24 (sc s), blk g5 24 (sc r)] (bdM g ga co B' (natsI ks) ++ [])) ?_ ?_
  · refine len_sl Try.underlying32 ?_
    rw [hkl]
    exact ⟨(), ⟨rfl, trivial⟩, H⟩
  clear H
  rintro ⟨⟩ u w5 H
  replace H : Hp _ _ _ _ _ := H
  refine cut_rule (γ := Unit) _ rfl (fun _ => []) (fun _ w' => (lessN r (allN (natsI ks).length) = 0 ∧ lessN s (allN (natsI ks).length) = 0 ∧ lessN t (allN (natsI ks).length) = 0) ∧ Hp w (fun _ => False) w' [arR ga q (.slice none 0 0) 20000 [], blk g7 24 (sc t), blk g6 24 (sc s), blk g5 24 (sc r)] (bdM g ga co B' (natsI ks) ++ [])) ?_ ?_
  · have hr1 := fun w1 => c109' r (natsI ks).length hr ho8 w1
    have hs1 := fun w1 => c109' s (natsI ks).length hs ho8 w1
    have ht1 := fun w1 => c109' t (natsI ks).length ht ho8 w1
    by_cases hz : lessN r (allN (natsI ks).length) = 0
    · rw [show (lessN r (allN (natsI ks).length) == 0) = true by simpa using hz] at hr1
      by_cases hz2 : lessN s (allN (natsI ks).length) = 0
      · rw [show (lessN s (allN (natsI ks).length) == 0) = true by simpa using hz2] at hs1
        by_cases hz3 : lessN t (allN (natsI ks).length) = 0
        · rw [show (lessN t (allN (natsI ks).length) == 0) = true by simpa using hz3] at ht1
          refine H.loadAll 3 rfl agg24 size24 ?_
          refine call_fn (hr1 _) ?_
          rintro _ w9 ⟨rfl, hk⟩
          replace H := H.same hk
          clear hk
          refine cond_no rfl ?_
          refine H.loadAll 2 rfl agg24 size24 ?_
          iterate 2 refine cond_no rfl ?_
          refine call_fn (hs1 _) ?_
          rintro _ w14 ⟨rfl, hk⟩
          replace H := H.same hk
          clear hk
          iterate 3 refine cond_no rfl ?_
          refine H.loadAll 1 rfl agg24 size24 ?_
          iterate 2 refine cond_no rfl ?_
          refine call_fn (ht1 _) ?_
          rintro _ w22 ⟨rfl, hk⟩
          replace H := H.same hk
          clear hk
          iterate 3 refine cond_no rfl ?_
          exact ⟨(), trivial, ⟨hz, hz2, hz3⟩, H⟩
        · rw [show (lessN t (allN (natsI ks).length) == 0) = false by simpa using hz3] at ht1
          refine H.loadAll 3 rfl agg24 size24 ?_
          refine call_fn (hr1 _) ?_
          rintro _ w9 ⟨rfl, hk⟩
          replace H := H.same hk
          clear hk
          refine cond_no rfl ?_
          refine H.loadAll 2 rfl agg24 size24 ?_
          iterate 2 refine cond_no rfl ?_
          refine call_fn (hs1 _) ?_
          rintro _ w14 ⟨rfl, hk⟩
          replace H := H.same hk
          clear hk
          iterate 3 refine cond_no rfl ?_
          refine H.loadAll 1 rfl agg24 size24 ?_
          iterate 2 refine cond_no rfl ?_
          refine call_fn (ht1 _) ?_
          rintro _ w22 ⟨rfl, hk⟩
          replace H := H.same hk
          clear hk
          iterate 2 refine cond_no rfl ?_
          refine cond_yes rfl ?_
          refine call_fn (c106 _) ?_
          rintro _ w26 ⟨rfl, hk⟩
          replace H := H.same hk
          clear hk
          exact ⟨rfl, H.keeps⟩
      · rw [show (lessN s (allN (natsI ks).length) == 0) = false by simpa using hz2] at hs1
        refine H.loadAll 3 rfl agg24 size24 ?_
        refine call_fn (hr1 _) ?_
        rintro _ w9 ⟨rfl, hk⟩
        replace H := H.same hk
        clear hk
        refine cond_no rfl ?_
        refine H.loadAll 2 rfl agg24 size24 ?_
        iterate 2 refine cond_no rfl ?_
        refine call_fn (hs1 _) ?_
        rintro _ w14 ⟨rfl, hk⟩
        replace H := H.same hk
        clear hk
        iterate 2 refine cond_no rfl ?_
        iterate 6 refine cond_yes rfl ?_
        refine call_fn (c106 _) ?_
        rintro _ w24 ⟨rfl, hk⟩
        replace H := H.same hk
        clear hk
        exact ⟨rfl, H.keeps⟩
    · rw [show (lessN r (allN (natsI ks).length) == 0) = false by simpa using hz] at hr1
      refine H.loadAll 3 rfl agg24 size24 ?_
      refine call_fn (hr1 _) ?_
      rintro _ w9 ⟨rfl, hk⟩
      replace H := H.same hk
      clear hk
      iterate 11 refine cond_yes rfl ?_
      refine call_fn (c106 _) ?_
      rintro _ w22 ⟨rfl, hk⟩
      replace H := H.same hk
      clear hk
      exact ⟨rfl, H.keeps⟩
  clear H
  rintro ⟨⟩ u w6 ⟨⟨hrz, hsz, htz⟩, H⟩
  replace H : Hp _ _ _ _ _ := H
  refine cut_rule (γ := Int × Value × Ar) _ rfl (fun (f, _) => [(12, .int .i64 f), (13, .int .i64 0)]) (fun (f, sv1, A1) w' => (ArOk 20000 A1 ∧ BInv (natsI ks).length A1 ∧ liveA A1 ≤ 255 ∧ Rep A1 f (FnS (natsI ks) r)) ∧ Hp w (fun _ => False) w' [arR ga q sv1 20000 A1, blk g7 24 (sc t), blk g6 24 (sc s), blk g5 24 (sc r)] (bdM g ga co B' (natsI ks) ++ [])) ?_ ?_
  · refine H.loadAll 3 rfl agg24 size24 ?_
    refine call_fn (c108 ho ho8 hr _ hA0 hok0 H.bdAt') ?_
    rintro _ w5 ⟨A1, sv1, f, e, rfl, (⟨h, _⟩ | ⟨_, hm⟩), hok1, ht⟩
    · exact absurd hrz h
    · obtain ⟨rfl, hr, hl⟩ := made_small hm (FnS_low ho _) ho8 (q := 0) (by decide) (by decide)
      exact ⟨(f, sv1, A1), ⟨rfl, rfl, trivial⟩, ⟨hok1, hm.inv, hl, hr⟩, H.turnBy 0 rfl ht⟩
  clear H hok0 hA0
  rintro ⟨f, sv1, A1⟩ u w7 ⟨⟨hok1, hA1, hl1, hr1⟩, H⟩
  replace H : Hp _ _ _ _ _ := H
  refine cut_rule (γ := Value × Ar) _ rfl (fun _ => []) (fun (sv2, A2) w' => (ArOk 20000 A2 ∧ BInv (natsI ks).length A2 ∧ liveA A2 ≤ 510 ∧ Rep A2 f (FnS (natsI ks) r)) ∧ Hp w (fun _ => False) w' [arR ga q sv2 20000 A2, blk g7 24 (sc t), blk g6 24 (sc s), blk g5 24 (sc r)] (bdM g ga co B' (natsI ks) ++ [])) ?_ ?_
  · refine H.loadAll 1 rfl agg24 size24 ?_
    refine call_fn (c108 ho ho8 ht _ hA1 hok1 H.bdAt') ?_
    rintro _ w5 ⟨A2, sv2, f2, e, rfl, (⟨h, _⟩ | ⟨_, hm⟩), hok2, ht⟩
    · exact absurd htz h
    · obtain ⟨rfl, _, hl⟩ := made_small hm (FnS_low ho _) ho8 hl1 (by decide)
      exact ⟨(sv2, A2), trivial, ⟨hok2, hm.inv, hl, hr1.ext hA1.inv hm.inv.inv hm.ext⟩, H.turnBy 0 rfl ht⟩
  clear H hok1 hA1 hl1 hr1
  rintro ⟨sv2, A2⟩ u w8 ⟨⟨hok2, hA2, hl2, hr2⟩, H⟩
  replace H : Hp _ _ _ _ _ := H
  have tf2 := id_lt hok2 hr2.there
  refine cut_rule (γ := Unit) _ rfl (fun _ => []) (fun _ w' => Hp w (fun _ => False) w' [arR ga q sv2 20000 (sweepA A2 [f]), blk g7 24 (sc t), blk g6 24 (sc s), blk g5 24 (sc r)] (bdM g ga co B' (natsI ks) ++ [])) ?_ ?_
  · refine H.buildOne T32 rfl ?_
    clear H
    intro gk w9 H
    have H2 := H.freeze
    refine call_fn (c115 (n := (natsI ks).length) (c := co) (B := B') hok2 [f] (fun k hk => by rw [List.mem_singleton] at hk; subst hk; omega) (by show 1 < 4611686018427387904; decide) (S := fun x => x = gk) _ (H2.ro 1 rfl) (H2.get 0 rfl) (H2.rdis _ (.tail _ (.head _)) _ (.head _) _ rfl) ?_ ?_ ?_) ?_
    · exact blk_sl (H.get 0 rfl) rfl (by show 1 ≤ maxLen; decide)
    · rintro x rfl; exact H2.rlt _ (.head _) _ rfl
    · rintro x rfl; exact H2.rdis _ (.head _) _ (.head _) _ rfl
    rintro _ w10 ⟨rfl, ht⟩
    exact ⟨(), trivial, (H2.turnBy 0 rfl ht).forgetRO⟩
  clear H
  rintro ⟨⟩ u w9 H
  replace H : Hp _ _ _ _ _ := H
  replace hr2 := sweep_rep hA2.inv (ids := [f]) (.head _) hr2
  replace hl2 := Nat.le_trans (live_sweep hA2.inv [f]) hl2
  replace hA2 := binv_sweep hA2 [f]
  replace hok2 := ok_sweep hok2 [f]
  generalize sweepA A2 [f] = A2 at hr2 hl2 hA2 hok2 H
  refine cut_rule (γ := Int × Value × Ar) _ rfl (fun (x, _) => [(14, .int .i64 x), (15, .int .i64 0)]) (fun (x, sv3, A3) w' => (ArOk 20000 A3 ∧ BInv (natsI ks).length A3 ∧ liveA A3 ≤ 765 ∧ Rep A3 f (FnS (natsI ks) r) ∧ Rep A3 x (FnS (natsI ks) s)) ∧ Hp w (fun _ => False) w' [arR ga q sv3 20000 A3, blk g7 24 (sc t), blk g6 24 (sc s), blk g5 24 (sc r)] (bdM g ga co B' (natsI ks) ++ [])) ?_ ?_
  · refine H.loadAll 2 rfl agg24 size24 ?_
    refine call_fn (c108 ho ho8 hs _ hA2 hok2 H.bdAt') ?_
    rintro _ w5 ⟨A3, sv3, f3, e, rfl, (⟨h, _⟩ | ⟨_, hm⟩), hok3, ht⟩
    · exact absurd hsz h
    · obtain ⟨rfl, hr3, hl⟩ := made_small hm (FnS_low ho _) ho8 hl2 (by decide)
      exact ⟨(f3, sv3, A3), ⟨rfl, rfl, trivial⟩, ⟨hok3, hm.inv, hl, hr2.ext hA2.inv hm.inv.inv hm.ext, hr3⟩, H.turnBy 0 rfl ht⟩
  clear H hok2 hA2 hl2 hr2 tf2
  rintro ⟨f3, sv3, A3⟩ u w10 ⟨⟨hok3, hA3, hl3, hr3, hs3⟩, H⟩
  replace H : Hp _ _ _ _ _ := H
  have tf := id_lt hok3 hr3.there
  have tg := id_lt hok3 hs3.there
  refine cut_rule (γ := Int × Value × Ar) _ rfl (fun (x, _) => [(16, .int .i64 x), (17, .int .i64 0)]) (fun (x, sv4, A4) w' => (ArOk 20000 A4 ∧ BInv (natsI ks).length A4 ∧ liveA A4 ≤ 1020 ∧ Rep A4 f (FnS (natsI ks) r) ∧ Rep A4 f3 (FnS (natsI ks) s) ∧ Rep A4 x (fun a => FnS (natsI ks) r a || FnS (natsI ks) s a)) ∧ Hp w (fun _ => False) w' [arR ga q sv4 20000 A4, blk g7 24 (sc t), blk g6 24 (sc s), blk g5 24 (sc r)] (bdM g ga co B' (natsI ks) ++ [])) ?_ ?_
  · refine call_fn (c116 ho8 f f3 (by omega) (by omega) _ hA3 hok3 H.bdAt') ?_
    rintro _ w5 ⟨A4, sv4, x, e, rfl, hm, hok4, ht⟩
    have hm := hm.made hr3.there (one_there _) hs3.there
    obtain ⟨rfl, hr, hl⟩ := made_small hm (iteF_low hA3 _ _ _) ho8 hl3 (by decide)
    rw [rep_or hr3 hs3] at hr
    exact ⟨(x, sv4, A4), ⟨rfl, rfl, trivial⟩, ⟨hok4, hm.inv, hl, hr3.ext hA3.inv hm.inv.inv hm.ext, hs3.ext hA3.inv hm.inv.inv hm.ext, hr⟩, H.turnBy 0 rfl ht⟩
  clear H hok3 hA3 hl3 hr3 hs3
  rintro ⟨x, sv4, A4⟩ u w11 ⟨⟨hok4, hA4, hl4, hr4, hs4, hx4⟩, H⟩
  replace H : Hp _ _ _ _ _ := H
  refine cut_rule (γ := Int × Value × Ar) _ rfl (fun (y, _) => [(18, .int .i64 y), (19, .int .i64 0)]) (fun (y, sv5, A5) w' => (ArOk 20000 A5 ∧ BInv (natsI ks).length A5 ∧ liveA A5 ≤ 1275 ∧ Rep A5 f (FnS (natsI ks) r) ∧ Rep A5 f3 (FnS (natsI ks) s) ∧ Rep A5 x (fun a => FnS (natsI ks) r a || FnS (natsI ks) s a) ∧ Rep A5 y (fun a => FnS (natsI ks) r a && FnS (natsI ks) s a)) ∧ Hp w (fun _ => False) w' [arR ga q sv5 20000 A5, blk g7 24 (sc t), blk g6 24 (sc s), blk g5 24 (sc r)] (bdM g ga co B' (natsI ks) ++ [])) ?_ ?_
  · refine call_fn (c114 ho8 f f3 (by omega) (by omega) _ hA4 hok4 H.bdAt') ?_
    rintro _ w5 ⟨A5, sv5, y, e, rfl, hm, hok5, ht⟩
    have hm := hm.made hr4.there hs4.there (end_there _)
    obtain ⟨rfl, hr, hl⟩ := made_small hm (iteF_low hA4 _ _ _) ho8 hl4 (by decide)
    rw [ite_and hr4 hs4] at hr
    exact ⟨(y, sv5, A5), ⟨rfl, rfl, trivial⟩, ⟨hok5, hm.inv, hl, hr4.ext hA4.inv hm.inv.inv hm.ext, hs4.ext hA4.inv hm.inv.inv hm.ext, hx4.ext hA4.inv hm.inv.inv hm.ext, hr⟩, H.turnBy 0 rfl ht⟩
  clear H hok4 hA4 hl4 hr4 hs4 hx4
  rintro ⟨y, sv5, A5⟩ u w12 ⟨⟨hok5, hA5, hl5, hr5, hs5, hx5, hy5⟩, H⟩
  replace H : Hp _ _ _ _ _ := H
  refine cut_rule (γ := Value × Ar) _ rfl (fun _ => [(20, .int .i64 x), (21, .int .i64 0)]) (fun (sv6, A6) w' => (ArOk 20000 A6 ∧ BInv (natsI ks).length A6 ∧ Rep A6 f (FnS (natsI ks) r) ∧ Rep A6 f3 (FnS (natsI ks) s) ∧ Rep A6 x (fun a => FnS (natsI ks) r a || FnS (natsI ks) s a) ∧ Rep A6 y (fun a => FnS (natsI ks) r a && FnS (natsI ks) s a)) ∧ Hp w (fun _ => False) w' [arR ga q sv6 20000 A6, blk g7 24 (sc t), blk g6 24 (sc s), blk g5 24 (sc r)] (bdM g ga co B' (natsI ks) ++ [])) ?_ ?_
  · refine call_fn (c117 ho8 f 1 f3 (by omega) (by decide) (by omega) _ hA5 hok5 H.bdAt') ?_
    rintro _ w5 ⟨A6, sv6, z, e, rfl, hm, hok6, ht⟩
    have hm := hm.made hr5.there (one_there _) hs5.there
    obtain ⟨rfl, hr, hl⟩ := made_small hm (iteF_low hA5 _ _ _) ho8 hl5 (by decide)
    rw [rep_or hr5 hs5] at hr
    have hx6 := hx5.ext hA5.inv hm.inv.inv hm.ext
    obtain rfl := rep_canon hm.inv hr hx6
    exact ⟨(sv6, A6), ⟨rfl, rfl, trivial⟩, ⟨hok6, hm.inv, hr5.ext hA5.inv hm.inv.inv hm.ext, hs5.ext hA5.inv hm.inv.inv hm.ext, hx6, hy5.ext hA5.inv hm.inv.inv hm.ext⟩, H.turnBy 0 rfl ht⟩
  clear H hok5 hA5 hl5 hr5 hs5 hx5 hy5
  rintro ⟨sv6, A6⟩ u w13 ⟨⟨hok6, hA6, hr6, hs6, hx6, hy6⟩, H⟩
  replace H : Hp _ _ _ _ _ := H
  refine cut_rule (γ := Nat) _ rfl (fun g22 => [(22, .pointer (some ⟨g22, 0, none⟩))]) (fun g22 w' => Hp w (fun _ => False) w' [blk g22 24 (sc r), blk g7 24 (sc t), blk g6 24 (sc s), blk g5 24 (sc r)] (bdM g ga co B' (natsI ks) ++ [])) ?_ ?_
  · have hc := c110b ho f (by omega) _ hA6 hok6 H.bdAt'
    rw [if_pos hr6.there, set_of ho hr hr6 hrz] at hc
    refine call_fn hc ?_
    rintro _ w9 ⟨rfl, hk⟩
    replace H := H.same hk
    clear hk
    refine H.alloc 24 (cs := sc 0) zero24 sc_zero ?_
    clear H
    intro g8 w4 H
    refine H.storeSet 0 rfl ?_
    clear H
    intro w5 H
    exact ⟨g8, ⟨rfl, trivial⟩, (H.front 1 rfl).forget⟩
  clear H
  rintro g22 u w14 H
  replace H : Hp _ _ _ _ _ := H
  have e1 : (f == f3) = (r == s) := by
    rw [Bool.eq_iff_iff, beq_iff_eq, beq_iff_eq, rep_eq hA6 hr6 hs6]
    exact FnS_eq ho hr hs hrz hsz
  have e2 : (x == y) = (r == s) := by
    rw [Bool.eq_iff_iff, beq_iff_eq, beq_iff_eq, rep_eq hA6 hx6 hy6]
    exact or_and.trans (FnS_eq ho hr hs hrz hsz)
  cases hb : r == s with
  | true =>
    rw [hb] at e1 e2
    refine H.loadAll 3 rfl agg24 size24 ?_
    refine H.loadAll 2 rfl agg24 size24 ?_
    refine bin_eql24 (by first | assumption | decide) (by first | assumption | decide) ?_
    refine bin_eql_bool Try.underlying4 ?_
    refine cond_dec (fun h19 => ?_) (fun h19 => ?_)
    · refine cond_yes (beq_iff_eq.2 (by assumption)) ?_
      iterate 2 refine cond_yes (beq_iff_eq.2 (by assumption)) ?_
      refine H.loadAll 3 rfl agg24 size24 ?_
      refine cond_yes (beq_iff_eq.2 (by assumption)) ?_
      refine H.loadAll 2 rfl agg24 size24 ?_
      refine cond_yes (beq_iff_eq.2 (by assumption)) ?_
      refine bin_eql24 (by first | assumption | decide) (by first | assumption | decide) ?_
      refine cond_yes (beq_iff_eq.2 (by assumption)) ?_
      refine bin_eql_bool Try.underlying4 ?_
      refine cond_yes (beq_iff_eq.2 (by assumption)) ?_
      refine cond_dec (fun h33 => ?_) (fun h33 => ?_)
      · refine cond_yes (beq_iff_eq.2 (by assumption)) ?_
        iterate 2 refine cond_yes (beq_iff_eq.2 (by assumption)) ?_
        refine cond_yes (beq_self_eq_true _) ?_
        refine H.loadAll 0 rfl agg24 size24 ?_
        refine cond_yes (beq_self_eq_true _) ?_
        refine H.loadAll 3 rfl agg24 size24 ?_
        refine cond_yes (beq_self_eq_true _) ?_
        refine bin_eql24 (by first | assumption | decide) (by first | assumption | decide) ?_
        iterate 2 refine cond_yes (beq_self_eq_true _) ?_
        refine call_fn (c106 _) ?_
        rintro _ w45 ⟨rfl, hk⟩
        replace H := H.same hk
        clear hk
        refine cond_yes (beq_self_eq_true _) ?_
        exact ⟨rfl, H.keeps⟩
      · refine cond_no (beq_eq_false_iff_ne.2 (by assumption)) ?_
        iterate 2 refine cond_no (beq_eq_false_iff_ne.2 (by assumption)) ?_
        iterate 6 refine cond_no rfl ?_
        refine ⟨congrArg Value.bool ?_, H.keeps⟩
        exact absurd (e2.trans hb.symm) h33
    · refine cond_no (beq_eq_false_iff_ne.2 (by assumption)) ?_
      iterate 6 refine cond_no (beq_eq_false_iff_ne.2 (by assumption)) ?_
      iterate 10 refine cond_no rfl ?_
      refine ⟨congrArg Value.bool ?_, H.keeps⟩
      exact absurd (e1.trans hb.symm) h19
  | false =>
    rw [hb] at e1 e2
    refine H.loadAll 3 rfl agg24 size24 ?_
    refine H.loadAll 2 rfl agg24 size24 ?_
    refine bin_eql24 (by first | assumption | decide) (by first | assumption | decide) ?_
    refine bin_eql_bool Try.underlying4 ?_
    refine cond_dec (fun h19 => ?_) (fun h19 => ?_)
    · refine cond_yes (beq_iff_eq.2 (by assumption)) ?_
      iterate 2 refine cond_yes (beq_iff_eq.2 (by assumption)) ?_
      refine H.loadAll 3 rfl agg24 size24 ?_
      refine cond_yes (beq_iff_eq.2 (by assumption)) ?_
      refine H.loadAll 2 rfl agg24 size24 ?_
      refine cond_yes (beq_iff_eq.2 (by assumption)) ?_
      refine bin_eql24 (by first | assumption | decide) (by first | assumption | decide) ?_
      refine cond_yes (beq_iff_eq.2 (by assumption)) ?_
      refine bin_eql_bool Try.underlying4 ?_
      refine cond_yes (beq_iff_eq.2 (by assumption)) ?_
      refine cond_dec (fun h33 => ?_) (fun h33 => ?_)
      · refine cond_yes (beq_iff_eq.2 (by assumption)) ?_
        iterate 2 refine cond_yes (beq_iff_eq.2 (by assumption)) ?_
        refine cond_yes (beq_self_eq_true _) ?_
        refine H.loadAll 0 rfl agg24 size24 ?_
        refine cond_yes (beq_self_eq_true _) ?_
        refine H.loadAll 3 rfl agg24 size24 ?_
        refine cond_yes (beq_self_eq_true _) ?_
        refine bin_eql24 (by first | assumption | decide) (by first | assumption | decide) ?_
        iterate 2 refine cond_yes (beq_self_eq_true _) ?_
        refine call_fn (c106 _) ?_
        rintro _ w45 ⟨rfl, hk⟩
        replace H := H.same hk
        clear hk
        refine cond_yes (beq_self_eq_true _) ?_
        exact ⟨rfl, H.keeps⟩
      · refine cond_no (beq_eq_false_iff_ne.2 (by assumption)) ?_
        iterate 2 refine cond_no (beq_eq_false_iff_ne.2 (by assumption)) ?_
        iterate 6 refine cond_no rfl ?_
        refine ⟨congrArg Value.bool ?_, H.keeps⟩
        exact absurd (e2.trans hb.symm) h33
    · refine cond_no (beq_eq_false_iff_ne.2 (by assumption)) ?_
      iterate 6 refine cond_no (beq_eq_false_iff_ne.2 (by assumption)) ?_
      iterate 10 refine cond_no rfl ?_
      refine ⟨congrArg Value.bool ?_, H.keeps⟩
      exact absurd (e1.trans hb.symm) h19
theorem law23 (v : Value) (r : Nat) (hr : r < 2 ^ 256) (s : Nat) (hs : s < 2 ^ 256) (t : Nat) (ht : t < 2 ^ 256) (w : World) {ks : List Int} (hk : IntsAt w v ks) : Fun Try.prog 23 [v, sv r, sv s, sv t] w fun v w' => v = .bool true ∧ Same w w' := by
  obtain ⟨B, c, rfl, hl, _, hS⟩ := hk
  exact law23_m ks B c r s t hr hs ht w hl hS
end Go.Proofs.Ytjebpngdinbckaa
end

section
/- Law 27: points turned. -/
namespace Go.Proofs.Ytjebpngdinbckaa
open Go.Dk
attribute [local irreducible] IntKind.wrap

theorem flip_up {p i : Nat} (h : p.testBit i = false) : p + 2 ^ i = p ^^^ 2 ^ i := by
  rw [add_pow_or h]
  refine Nat.eq_of_testBit_eq fun j => ?_
  rw [Nat.testBit_or, Nat.testBit_xor, Nat.testBit_two_pow]
  by_cases hj : i = j
  · subst hj; rw [h]; simp
  · simp [hj]
theorem flip_bit (p i : Nat) : (p ^^^ 2 ^ i).testBit i = !p.testBit i := by
  rw [Nat.testBit_xor, Nat.testBit_two_pow]; simp
theorem flip_flip (p i : Nat) : p ^^^ 2 ^ i ^^^ 2 ^ i = p := by rw [Nat.xor_assoc, Nat.xor_self, Nat.xor_zero]
theorem flip_down {p i : Nat} (h : p.testBit i = true) : 2 ^ i ≤ p ∧ p - 2 ^ i = p ^^^ 2 ^ i := by
  have h1 : (p ^^^ 2 ^ i).testBit i = false := by rw [flip_bit, h]; rfl
  have h2 := flip_up h1
  rw [flip_flip] at h2
  omega
theorem flip_lt {p i n : Nat} (hp : p < 2 ^ n) (hi : i < n) : p ^^^ 2 ^ i < 2 ^ n := Nat.xor_lt_two_pow hp (Nat.pow_lt_pow_right (by decide) hi)
def wantL (l : List Nat) (i : Nat) : List Bool := (List.range 256).map fun p => l.any fun x => x == p || (x ^^^ 2 ^ i) == p
theorem wantL_length (l : List Nat) (i : Nat) : (wantL l i).length = 256 := by simp [wantL]
theorem wantL_nil (i : Nat) : wantL [] i = List.replicate 256 false := List.eq_replicate_iff.2 ⟨wantL_length _ _, fun b hb => by
  obtain ⟨p, _, rfl⟩ := List.mem_map.1 hb; rfl⟩
theorem wantL_snoc (l : List Nat) (i x : Nat) : ((wantL l i).set x true).set (x ^^^ 2 ^ i) true = wantL (l ++ [x]) i := by
  refine List.ext_getElem? fun p => ?_
  by_cases hp : p < 256
  · have e : ∀ l : List Nat, (wantL l i)[p]? = some (l.any fun x => x == p || (x ^^^ 2 ^ i) == p) := fun l => by
      unfold wantL
      rw [List.getElem?_map, List.getElem?_range hp]; rfl
    rw [List.getElem?_set, List.getElem?_set, e, e, List.any_append]
    simp only [List.length_set, wantL_length, List.any_cons, List.any_nil, Bool.or_false]
    by_cases h1 : x ^^^ 2 ^ i = p
    · subst h1; simp [hp]
    · by_cases h2 : x = p
      · subst h2; simp [h1, hp]
      · simp [h1, h2]
  · rw [List.getElem?_eq_none (by rw [List.length_set, List.length_set, wantL_length]; omega), List.getElem?_eq_none (by rw [wantL_length]; omega)]
/-- A set, and its points turned at an input. -/
def someN (r i : Nat) : Nat := setOf fun p => r.testBit p || r.testBit (p ^^^ 2 ^ i)
theorem someN_want {r i n : Nat} (hr : r < 2 ^ 256) (hw : ∀ p, r.testBit p = true → p < 2 ^ n) (hi : i < n) (hn : n ≤ 8) : ofFlags (wantL (pts r) i) = someN r i := by
  unfold ofFlags someN
  refine set_ext (setOf_lt _) (setOf_lt _) fun p hp => ?_
  rw [testBit_setOf, testBit_setOf]
  congr 1
  unfold wantL
  rw [List.getD_eq_getElem?_getD, List.getElem?_map, List.getElem?_range hp]
  simp only [Option.map_some, Option.getD_some]
  have h256 := pow_le_256 hn
  have hm : ∀ x, x ∈ pts r ↔ r.testBit x = true := fun x => by
    rw [mem_bitsBelow]
    exact ⟨fun h => h.2, fun h => ⟨by have := hw x h; omega, h⟩⟩
  rw [Bool.eq_iff_iff, List.any_eq_true, Bool.or_eq_true]
  constructor
  · rintro ⟨x, hx, h⟩
    rw [Bool.or_eq_true, beq_iff_eq, beq_iff_eq] at h
    rcases h with rfl | rfl
    · exact .inl ((hm x).1 hx)
    · exact .inr (by rw [flip_flip]; exact (hm x).1 hx)
  · rintro (h | h)
    · exact ⟨p, (hm p).2 h, by simp⟩
    · exact ⟨p ^^^ 2 ^ i, (hm _).2 h, by rw [flip_flip]; simp⟩
theorem pt_flip {o : List Nat} (ho : OrdO o) {p i : Nat} (hp : p < 2 ^ o.length) (hi : i < o.length) : ptA o (upA (asgP o p) (o.idxOf i) (!asgP o p (o.idxOf i))) = p ^^^ 2 ^ i := by
  have hb : ∀ j, j < o.length → asgP o p (o.idxOf j) = p.testBit j := fun j hj => by
    unfold asgP
    rw [decide_eq_true (ho.idx_lt hj), Bool.true_and, ho.get_idx hj]
  refine Nat.eq_of_testBit_eq fun j => ?_
  rcases Nat.lt_or_ge j o.length with hj | hj
  · rw [testBit_ptA _ hj, Nat.testBit_xor, Nat.testBit_two_pow]
    by_cases hij : i = j
    · subst hij
      rw [upA_same, hb i hi]; simp
    · have hne : o.idxOf j ≠ o.idxOf i := fun h => hij (by have h1 := ho.get_idx hi; have h2 := ho.get_idx hj; rw [h] at h2; omega)
      rw [upA_ne _ _ hne, hb j hj]; simp [hij]
  · rw [Nat.testBit_lt_two_pow (Nat.lt_of_lt_of_le (ptA_lt _ _) (Nat.pow_le_pow_right (by decide) hj)), Nat.testBit_lt_two_pow (Nat.lt_of_lt_of_le (flip_lt hp hi) (Nat.pow_le_pow_right (by decide) hj))]
theorem some_set {o : List Nat} (ho : OrdO o) {A : Ar} {x : Int} {r i : Nat} (hr : r < 2 ^ 256) (hrz : lessN r (allN o.length) = 0) (hi : i < o.length)
    (h : Rep A x fun a => FnS o r a || FnS o r (upA a (o.idxOf i) (!a (o.idxOf i)))) : setD o A x = someN r i := by
  have hw := less_all hr hrz
  have h256 := pow_le_256 ho.le
  refine setD_rep ho h (setOf_lt _) (fun p hp => ?_) (fun p hp => ?_)
  · unfold someN at hp
    rw [testBit_setOf, Bool.and_eq_true, Bool.or_eq_true] at hp
    rcases hp.2 with h | h
    · exact hw p h
    · have := flip_lt (hw _ h) hi
      rwa [flip_flip] at this
  · unfold someN
    rw [testBit_setOf, decide_eq_true (by omega), Bool.true_and, FnS_asg ho r hp]
    unfold FnS
    rw [pt_flip ho hp hi]
theorem ite_set {o : List Nat} (ho : OrdO o) {A : Ar} {x : Int} {r s t : Nat} (hr : r < 2 ^ 256) (ht : t < 2 ^ 256) (hrz : lessN r (allN o.length) = 0) (htz : lessN t (allN o.length) = 0)
    (h : Rep A x fun a => if FnS o r a then FnS o s a else FnS o t a) : setD o A x = r &&& s ||| lessN t r := by
  refine setD_rep ho h (Nat.or_lt_two_pow (Nat.lt_of_le_of_lt Nat.and_le_left hr) (setOf_lt _)) (fun p hp => ?_) (fun p hp => ?_)
  · rw [Nat.testBit_or, Nat.testBit_and, testBit_lessN ht, Bool.or_eq_true, Bool.and_eq_true, Bool.and_eq_true] at hp
    rcases hp with h | h
    · exact less_all hr hrz p h.1
    · exact less_all ht htz p h.1
  · rw [FnS_asg ho r hp, FnS_asg ho s hp, FnS_asg ho t hp, Nat.testBit_or, Nat.testBit_and, testBit_lessN ht]
    cases r.testBit p <;> simp
theorem or_set {o : List Nat} (ho : OrdO o) {A : Ar} {x : Int} {r s : Nat} (hr : r < 2 ^ 256) (hs : s < 2 ^ 256) (hrz : lessN r (allN o.length) = 0) (hsz : lessN s (allN o.length) = 0)
    (h : Rep A x fun a => FnS o r a || FnS o s a) : setD o A x = r ||| s := by
  refine setD_rep ho h (Nat.or_lt_two_pow hr hs) (fun p hp => ?_) (fun p hp => ?_)
  · rw [Nat.testBit_or, Bool.or_eq_true] at hp
    rcases hp with h | h
    · exact less_all hr hrz p h
    · exact less_all hs hsz p h
  · rw [FnS_asg ho r hp, FnS_asg ho s hp, Nat.testBit_or]
theorem not_set {o : List Nat} (ho : OrdO o) {A : Ar} {x : Int} {r : Nat} (h : Rep A x fun a => !FnS o r a) : setD o A x = lessN (allN o.length) r := by
  refine setD_rep ho h (setOf_lt _) (fun p hp => ?_) (fun p hp => ?_)
  · rw [testBit_lessN (allN_lt _), Bool.and_eq_true] at hp
    have := hp.1
    unfold allN at this
    rw [testBit_setOf, Bool.and_eq_true, decide_eq_true_eq, decide_eq_true_eq] at this
    exact this.2
  · have := pow_le_256 ho.le
    rw [FnS_asg ho r hp, testBit_lessN (allN_lt _)]
    unfold allN
    rw [testBit_setOf, decide_eq_true (by omega), decide_eq_true hp]; rfl
end Go.Proofs.Ytjebpngdinbckaa
end

section
/- Law 27. -/
namespace Go.Proofs.Ytjebpngdinbckaa
open Go.Dk
attribute [local irreducible] IntKind.wrap

/-- What Of answers where there is room enough. -/
def OfR (o : List Nat) (A : Ar) (s : Nat) (f e : Int) : Prop := (lessN s (allN o.length) ≠ 0 ∧ f = 0 ∧ e = 1) ∨ (lessN s (allN o.length) = 0 ∧ e = 0 ∧ Rep A f (FnS o s))
theorem OfR.ext {o : List Nat} {A A' : Ar} {s : Nat} {f e : Int} (hA : ArInv A) (hA' : ArInv A') (hx : Ext A A') (h : OfR o A s f e) : OfR o A' s f e := by
  rcases h with h | ⟨h1, h2, h3⟩
  · exact .inl h
  · exact .inr ⟨h1, h2, h3.ext hA hA' hx⟩
theorem ofR {o : List Nat} (ho : OrdO o) {A A' : Ar} {s : Nat} {f e : Int} {q : Nat} (hq : liveA A ≤ q) (hr : q + 256 ≤ 20000) (hA : BInv o.length A)
    (h : (lessN s (allN o.length) ≠ 0 ∧ A' = A ∧ f = 0 ∧ e = 1) ∨ (lessN s (allN o.length) = 0 ∧ Made o.length 20000 A A' (FnS o s) f e)) : OfR o A' s f e ∧ liveA A' ≤ q + 255 ∧ Ext A A' ∧ BInv o.length A' := by
  rcases h with ⟨h1, rfl, h2, h3⟩ | ⟨h1, hm⟩
  · exact ⟨.inl ⟨h1, h2, h3⟩, by omega, Ext.refl _, hA⟩
  · obtain ⟨he, hrep, hl⟩ := made_small hm (FnS_low ho s) ho.le hq (by omega)
    exact ⟨.inr ⟨h1, he, hrep⟩, hl, hm.ext, hm.inv⟩
theorem ite3 {A : Ar} {f g h : Int} {F G K : Dk.Fn} (hf : Rep A f F) (hg : Rep A g G) (hh : Rep A h K) : iteF A f g h = fun a => if F a then G a else K a := by
  funext a
  unfold iteF
  rw [hf.says, hg.says, hh.says]
theorem not1 {A : Ar} {f : Int} {F : Dk.Fn} (hf : Rep A f F) : iteF A f 0 1 = fun a => !F a := by
  funext a
  unfold iteF
  rw [hf.says, sem_none (nd_end (.inl rfl)), sem_none (nd_end (.inr rfl))]
  cases F a <;> rfl
theorem ent27 : enters Try.prog 27 = true := by kernel_rfl
set_option maxHeartbeats 4000000 in
theorem law27_m (ks : List Int) (B : Option Addr) (c : Nat) (r s t : Nat) (hr : r < 2 ^ 256) (hs : s < 2 ^ 256) (ht : t < 2 ^ 256) (input : Int) (w : World) (hl : ks.length ≤ 9223372036854775807) (hS : Sl w (.slice B ks.length c) 1 ks.length (intsI ks)) :
    Fun Try.prog 27 [.slice B ks.length c, sv r, sv s, sv t, .int .i64 input] w fun v w' => v = .bool true ∧ Same w w' := by
  refine fun_of_W (N := 286) Try.func27 ent27 rfl rfl rfl (by simp) ?_
  have H := Hp.start0 w
  refine cut_rule (γ := Nat × Nat × Nat) _ rfl (fun (g6, g7, g8) => [(6, .pointer (some ⟨g6, 0, none⟩)), (7, .pointer (some ⟨g7, 0, none⟩)), (8, .pointer (some ⟨g8, 0, none⟩))]) (fun (g6, g7, g8) w' => Hp w (fun _ => False) w' [blk g8 24 (sc t), blk g7 24 (sc s), blk g6 24 (sc r)] []) ?_ ?_
  · refine H.box 24 (sv r) (cs := sc r) rfl ?_
    clear H
    intro g5 w1 H
    refine H.box 24 (sv s) (cs := sc s) rfl ?_
    clear H
    intro g6 w1 H
    refine H.box 24 (sv t) (cs := sc t) rfl ?_
    clear H
    intro g7 w1 H
    exact ⟨(g5, g6, g7), ⟨rfl, rfl, rfl, trivial⟩, H⟩
  clear H
  rintro ⟨g6, g7, g8⟩ u w1 H
  replace H : Hp _ _ _ _ _ := H
  refine cut_rule (γ := Unit) _ rfl (fun _ => []) (fun _ w' => ks.length ≤ 20 ∧ Hp w (fun _ => False) w' [blk g8 24 (sc t), blk g7 24 (sc s), blk g6 24 (sc r)] []) ?_ ?_
  · refine len_sl Try.underlying32 ?_
    refine cond_dec (fun h3 => ?_) (fun h3 => ?_)
    · refine call_fn (c106 _) ?_
      rintro _ w4 ⟨rfl, hk⟩
      replace H := H.same hk
      clear hk
      exact ⟨rfl, H.keeps⟩
    · exact ⟨(), trivial, by omega, H⟩
  clear H
  rintro ⟨⟩ u w2 ⟨h20, H⟩
  replace H : Hp _ _ _ _ _ := H
  refine cut_rule (γ := Option (Nat × Nat × Nat × Nat × Option Addr)) _ rfl (fun x => [(11, match x with | none => .pointer none | some (g, _) => .pointer (some ⟨g, 0, none⟩)), (12, .bool true)])
    (fun x w' => match x with | none => ¬ OrdI ks ∧ Hp w (fun _ => False) w' [blk g8 24 (sc t), blk g7 24 (sc s), blk g6 24 (sc r)] [] | some (g, ga, q, co, B') => OrdI ks ∧ Hp w (fun _ => False) w' [arR ga q (.slice none 0 0) 20000 [], blk g8 24 (sc t), blk g7 24 (sc s), blk g6 24 (sc r)] (bdM g ga co B' (natsI ks) ++ [])) ?_ ?_
  · refine call_fn (c107 ks B c _ hl (hS.same H.keeps)) ?_
    rintro _ w3 (⟨hno, rfl, hk⟩ | ⟨hord, g, ga, q, co, B', rfl, hn⟩)
    · exact ⟨none, ⟨rfl, rfl, trivial⟩, hno, H.same hk⟩
    · exact ⟨some (g, ga, q, co, B'), ⟨rfl, rfl, trivial⟩, hord, (H.addNew hn).bdOpen.takeN 4⟩
  clear H
  rintro (_ | ⟨g, ga, q, co, B'⟩) u w3 ⟨hord, H⟩
  · replace H : Hp _ _ _ _ _ := H
    refine bin_eql123z ?_
    iterate 5 refine cond_yes rfl ?_
    refine call_fn (c106 _) ?_
    rintro _ w13 ⟨rfl, hk⟩
    replace H := H.same hk
    clear hk
    refine cond_yes rfl ?_
    exact ⟨rfl, H.keeps⟩
  replace H : Hp _ _ _ _ _ := H
  have ho : OrdO (natsI ks) := hord.nats
  have ho8 : (natsI ks).length ≤ 8 := ho.le
  have hkl : (natsI ks).length = ks.length := natsI_length ks
  have hS' := ord_sl hord hS
  have hA0 : BInv (natsI ks).length [] := BInv.nil _
  have hok0 : ArOk 20000 [] := ok_start (by decide) (by decide)
  refine cut_rule (γ := Unit) _ rfl (fun _ => []) (fun _ w' => Hp w (fun _ => False) w' [arR ga q (.slice none 0 0) 20000 [], blk g8 24 (sc t), blk g7 24 (sc s), blk g6 24 (sc r)] (bdM g ga co B' (natsI ks) ++ [])) ?_ ?_
  · refine bin_eql123 ?_
    iterate 4 refine cond_no rfl ?_
    exact ⟨(), trivial, H⟩
  clear H
  rintro ⟨⟩ u w4 H
  replace H : Hp _ _ _ _ _ := H
  refine cut_rule (γ := Int × Int × Value × Ar) _ rfl (fun (f, e, _) => [(13, .int .i64 f), (14, .int .i64 e)]) (fun (f, e, sv1, A1) w' => (ArOk 20000 A1 ∧ BInv (natsI ks).length A1 ∧ liveA A1 ≤ 255 ∧ OfR (natsI ks) A1 r f e) ∧ Hp w (fun _ => False) w' [arR ga q sv1 20000 A1, blk g8 24 (sc t), blk g7 24 (sc s), blk g6 24 (sc r)] (bdM g ga co B' (natsI ks) ++ [])) ?_ ?_
  · refine H.loadAll 3 rfl agg24 size24 ?_
    refine call_fn (c108 ho ho8 hr _ hA0 hok0 H.bdAt') ?_
    rintro _ w5 ⟨A1, sv1, f, e, rfl, hm, hok1, ht⟩
    obtain ⟨hR, hl, hx, hI⟩ := ofR ho (q := 0) (by decide) (by decide) hA0 hm
    exact ⟨(f, e, sv1, A1), ⟨rfl, rfl, trivial⟩, ⟨hok1, hI, hl, hR⟩, H.turnBy 0 rfl ht⟩
  clear H
  rintro ⟨f1, e1, sv1, A1⟩ u w5 ⟨⟨hok1, hA1, hl1, oR⟩, H⟩
  replace H : Hp _ _ _ _ _ := H
  refine cut_rule (γ := Int × Int × Value × Ar) _ rfl (fun (f, e, _) => [(15, .int .i64 f), (16, .int .i64 e)]) (fun (f, e, sv2, A2) w' => (ArOk 20000 A2 ∧ BInv (natsI ks).length A2 ∧ liveA A2 ≤ 510 ∧ OfR (natsI ks) A2 s f e ∧ OfR (natsI ks) A2 r f1 e1) ∧ Hp w (fun _ => False) w' [arR ga q sv2 20000 A2, blk g8 24 (sc t), blk g7 24 (sc s), blk g6 24 (sc r)] (bdM g ga co B' (natsI ks) ++ [])) ?_ ?_
  · refine H.loadAll 2 rfl agg24 size24 ?_
    refine call_fn (c108 ho ho8 hs _ hA1 hok1 H.bdAt') ?_
    rintro _ w5 ⟨A2, sv2, f, e, rfl, hm, hok1, ht⟩
    obtain ⟨hR, hl, hx, hI⟩ := ofR ho (q := 255) hl1 (by decide) hA1 hm
    exact ⟨(f, e, sv2, A2), ⟨rfl, rfl, trivial⟩, ⟨hok1, hI, hl, hR, oR.ext hA1.inv hI.inv hx⟩, H.turnBy 0 rfl ht⟩
  clear H
  rintro ⟨f2, e2, sv2, A2⟩ u w5 ⟨⟨hok2, hA2, hl2, oS, oR⟩, H⟩
  replace H : Hp _ _ _ _ _ := H
  refine cut_rule (γ := Int × Int × Value × Ar) _ rfl (fun (f, e, _) => [(17, .int .i64 f), (18, .int .i64 e)]) (fun (f, e, sv3, A3) w' => (ArOk 20000 A3 ∧ BInv (natsI ks).length A3 ∧ liveA A3 ≤ 765 ∧ OfR (natsI ks) A3 t f e ∧ OfR (natsI ks) A3 s f2 e2 ∧ OfR (natsI ks) A3 r f1 e1) ∧ Hp w (fun _ => False) w' [arR ga q sv3 20000 A3, blk g8 24 (sc t), blk g7 24 (sc s), blk g6 24 (sc r)] (bdM g ga co B' (natsI ks) ++ [])) ?_ ?_
  · refine H.loadAll 1 rfl agg24 size24 ?_
    refine call_fn (c108 ho ho8 ht _ hA2 hok2 H.bdAt') ?_
    rintro _ w5 ⟨A3, sv3, f, e, rfl, hm, hok1, ht⟩
    obtain ⟨hR, hl, hx, hI⟩ := ofR ho (q := 510) hl2 (by decide) hA2 hm
    exact ⟨(f, e, sv3, A3), ⟨rfl, rfl, trivial⟩, ⟨hok1, hI, hl, hR, oS.ext hA2.inv hI.inv hx, oR.ext hA2.inv hI.inv hx⟩, H.turnBy 0 rfl ht⟩
  clear H
  rintro ⟨f3, e3, sv3, A3⟩ u w5 ⟨⟨hok3, hA3, hl3, oT, oS, oR⟩, H⟩
  replace H : Hp _ _ _ _ _ := H
  refine cut_rule (γ := Unit) _ rfl (fun _ => []) (fun _ w' => (e1 = 0 ∧ e2 = 0 ∧ e3 = 0) ∧ Hp w (fun _ => False) w' [arR ga q sv3 20000 A3, blk g8 24 (sc t), blk g7 24 (sc s), blk g6 24 (sc r)] (bdM g ga co B' (natsI ks) ++ [])) ?_ ?_
  · have hr1 := fun w1 => c109' r (natsI ks).length hr ho8 w1
    have hs1 := fun w1 => c109' s (natsI ks).length hs ho8 w1
    have ht1 := fun w1 => c109' t (natsI ks).length ht ho8 w1
    rcases oR with ⟨hz1, _, he1⟩ | ⟨hz1, he1, _⟩
    · subst he1
      rw [show (lessN r (allN (natsI ks).length) == 0) = false by simpa using hz1, hkl] at hr1
      iterate 7 refine cond_yes rfl ?_
      refine H.loadAll 3 rfl agg24 size24 ?_
      refine len_sl Try.underlying32 ?_
      refine call_fn (hr1 _) ?_
      rintro _ w18 ⟨rfl, hk⟩
      replace H := H.same hk
      clear hk
      iterate 13 refine cond_yes rfl ?_
      refine call_fn (c106 _) ?_
      rintro _ w33 ⟨rfl, hk⟩
      replace H := H.same hk
      clear hk
      refine cond_yes rfl ?_
      exact ⟨rfl, H.keeps⟩
    · subst he1
      rw [show (lessN r (allN (natsI ks).length) == 0) = true by simpa using hz1, hkl] at hr1
      rcases oS with ⟨hz2, _, he2⟩ | ⟨hz2, he2, _⟩
      · subst he2
        rw [show (lessN s (allN (natsI ks).length) == 0) = false by simpa using hz2, hkl] at hs1
        iterate 3 refine cond_no rfl ?_
        iterate 4 refine cond_yes rfl ?_
        refine H.loadAll 3 rfl agg24 size24 ?_
        refine len_sl Try.underlying32 ?_
        refine call_fn (hr1 _) ?_
        rintro _ w18 ⟨rfl, hk⟩
        replace H := H.same hk
        clear hk
        refine cond_no rfl ?_
        refine H.loadAll 2 rfl agg24 size24 ?_
        iterate 2 refine cond_no rfl ?_
        refine len_sl Try.underlying32 ?_
        refine cond_no rfl ?_
        refine call_fn (hs1 _) ?_
        rintro _ w26 ⟨rfl, hk⟩
        replace H := H.same hk
        clear hk
        iterate 2 refine cond_no rfl ?_
        iterate 7 refine cond_yes rfl ?_
        refine call_fn (c106 _) ?_
        rintro _ w36 ⟨rfl, hk⟩
        replace H := H.same hk
        clear hk
        refine cond_yes rfl ?_
        exact ⟨rfl, H.keeps⟩
      · subst he2
        rw [show (lessN s (allN (natsI ks).length) == 0) = true by simpa using hz2, hkl] at hs1
        rcases oT with ⟨hz3, _, he3⟩ | ⟨hz3, he3, _⟩
        · subst he3
          rw [show (lessN t (allN (natsI ks).length) == 0) = false by simpa using hz3, hkl] at ht1
          iterate 6 refine cond_no rfl ?_
          refine cond_yes rfl ?_
          refine H.loadAll 3 rfl agg24 size24 ?_
          refine len_sl Try.underlying32 ?_
          refine call_fn (hr1 _) ?_
          rintro _ w18 ⟨rfl, hk⟩
          replace H := H.same hk
          clear hk
          refine cond_no rfl ?_
          refine H.loadAll 2 rfl agg24 size24 ?_
          iterate 2 refine cond_no rfl ?_
          refine len_sl Try.underlying32 ?_
          refine cond_no rfl ?_
          refine call_fn (hs1 _) ?_
          rintro _ w26 ⟨rfl, hk⟩
          replace H := H.same hk
          clear hk
          iterate 3 refine cond_no rfl ?_
          refine H.loadAll 1 rfl agg24 size24 ?_
          iterate 2 refine cond_no rfl ?_
          refine len_sl Try.underlying32 ?_
          refine cond_no rfl ?_
          refine call_fn (ht1 _) ?_
          rintro _ w35 ⟨rfl, hk⟩
          replace H := H.same hk
          clear hk
          iterate 2 refine cond_no rfl ?_
          refine cond_yes rfl ?_
          refine call_fn (c106 _) ?_
          rintro _ w39 ⟨rfl, hk⟩
          replace H := H.same hk
          clear hk
          refine cond_yes rfl ?_
          exact ⟨rfl, H.keeps⟩
        · subst he3
          iterate 7 refine cond_no rfl ?_
          exact ⟨(), trivial, ⟨rfl, rfl, rfl⟩, H⟩
  clear H
  rintro ⟨⟩ u w6 ⟨⟨he1, he2, he3⟩, H⟩
  replace H : Hp _ _ _ _ _ := H
  obtain ⟨hrz, r1⟩ : lessN r (allN (natsI ks).length) = 0 ∧ Rep A3 f1 (FnS (natsI ks) r) := by
    rcases oR with ⟨_, _, h⟩ | ⟨h1, _, h2⟩
    · omega
    · exact ⟨h1, h2⟩
  obtain ⟨hsz, r2⟩ : lessN s (allN (natsI ks).length) = 0 ∧ Rep A3 f2 (FnS (natsI ks) s) := by
    rcases oS with ⟨_, _, h⟩ | ⟨h1, _, h2⟩
    · omega
    · exact ⟨h1, h2⟩
  obtain ⟨htz, r3⟩ : lessN t (allN (natsI ks).length) = 0 ∧ Rep A3 f3 (FnS (natsI ks) t) := by
    rcases oT with ⟨_, _, h⟩ | ⟨h1, _, h2⟩
    · omega
    · exact ⟨h1, h2⟩
  clear oR oS oT hok0 hA0 hok1 hok2 hA1 hA2 hl1 hl2
  have b1 := id_lt hok3 r1.there
  have b2 := id_lt hok3 r2.there
  have b3 := id_lt hok3 r3.there
  refine cut_rule (γ := Int × Value × Ar) _ rfl (fun (x, _) => [(19, .int .i64 x), (20, .int .i64 0)]) (fun (x, sv4, A4) w' => (ArOk 20000 A4 ∧ BInv (natsI ks).length A4 ∧ liveA A4 ≤ 1020 ∧ Rep A4 x (fun a => if FnS (natsI ks) r a then FnS (natsI ks) s a else FnS (natsI ks) t a) ∧ Rep A4 f1 ((FnS (natsI ks) r)) ∧ Rep A4 f2 ((FnS (natsI ks) s)) ∧ Rep A4 f3 ((FnS (natsI ks) t))) ∧ Hp w (fun _ => False) w' [arR ga q sv4 20000 A4, blk g8 24 (sc t), blk g7 24 (sc s), blk g6 24 (sc r)] (bdM g ga co B' (natsI ks) ++ [])) ?_ ?_
  · refine call_fn (c117 ho8 f1 f2 f3 (by omega) (by omega) (by omega) _ hA3 hok3 H.bdAt') ?_
    rintro _ w5 ⟨A4, sv4, x, e, rfl, hm, hokn, ht⟩
    have hm := hm.made r1.there r2.there r3.there
    obtain ⟨rfl, hrep, hl⟩ := made_small hm (iteF_low hA3 _ _ _) ho8 hl3 (by decide)
    rw [ite3 r1 r2 r3] at hrep
    exact ⟨(x, sv4, A4), ⟨rfl, rfl, trivial⟩, ⟨hokn, hm.inv, hl, hrep, r1.ext hA3.inv hm.inv.inv hm.ext, r2.ext hA3.inv hm.inv.inv hm.ext, r3.ext hA3.inv hm.inv.inv hm.ext⟩, H.turnBy 0 rfl ht⟩
  clear H hok3 hA3 hl3 r1 r2 r3
  rintro ⟨x4, sv4, A4⟩ u w7 ⟨⟨hok4, hA4, hl4, qx4, r1, r2, r3⟩, H⟩
  replace H : Hp _ _ _ _ _ := H
  refine cut_rule (γ := Int × Value × Ar) _ rfl (fun (x, _) => [(21, .int .i64 x), (22, .int .i64 0)]) (fun (x, sv5, A5) w' => (ArOk 20000 A5 ∧ BInv (natsI ks).length A5 ∧ liveA A5 ≤ 1275 ∧ Rep A5 x (fun a => !FnS (natsI ks) r a) ∧ Rep A5 f1 ((FnS (natsI ks) r)) ∧ Rep A5 f2 ((FnS (natsI ks) s)) ∧ Rep A5 f3 ((FnS (natsI ks) t)) ∧ Rep A5 x4 (fun a => if FnS (natsI ks) r a then FnS (natsI ks) s a else FnS (natsI ks) t a)) ∧ Hp w (fun _ => False) w' [arR ga q sv5 20000 A5, blk g8 24 (sc t), blk g7 24 (sc s), blk g6 24 (sc r)] (bdM g ga co B' (natsI ks) ++ [])) ?_ ?_
  · refine call_fn (c128 ho8 f1 (by omega) _ hA4 hok4 H.bdAt') ?_
    rintro _ w5 ⟨A5, sv5, x, e, rfl, hm, hokn, ht⟩
    have hm := hm.made r1.there (end_there _) (one_there _)
    obtain ⟨rfl, hrep, hl⟩ := made_small hm (iteF_low hA4 _ _ _) ho8 hl4 (by decide)
    rw [not1 r1] at hrep
    exact ⟨(x, sv5, A5), ⟨rfl, rfl, trivial⟩, ⟨hokn, hm.inv, hl, hrep, r1.ext hA4.inv hm.inv.inv hm.ext, r2.ext hA4.inv hm.inv.inv hm.ext, r3.ext hA4.inv hm.inv.inv hm.ext, qx4.ext hA4.inv hm.inv.inv hm.ext⟩, H.turnBy 0 rfl ht⟩
  clear H hok4 hA4 hl4 r1 r2 r3 qx4
  rintro ⟨x5, sv5, A5⟩ u w7 ⟨⟨hok5, hA5, hl5, qx5, r1, r2, r3, qx4⟩, H⟩
  replace H : Hp _ _ _ _ _ := H
  refine cut_rule (γ := Int × Value × Ar) _ rfl (fun (x, _) => [(23, .int .i64 x), (24, .int .i64 0)]) (fun (x, sv6, A6) w' => (ArOk 20000 A6 ∧ BInv (natsI ks).length A6 ∧ liveA A6 ≤ 1530 ∧ Rep A6 x (fun a => FnS (natsI ks) r a && FnS (natsI ks) s a) ∧ Rep A6 f1 ((FnS (natsI ks) r)) ∧ Rep A6 f2 ((FnS (natsI ks) s)) ∧ Rep A6 f3 ((FnS (natsI ks) t)) ∧ Rep A6 x4 (fun a => if FnS (natsI ks) r a then FnS (natsI ks) s a else FnS (natsI ks) t a) ∧ Rep A6 x5 (fun a => !FnS (natsI ks) r a)) ∧ Hp w (fun _ => False) w' [arR ga q sv6 20000 A6, blk g8 24 (sc t), blk g7 24 (sc s), blk g6 24 (sc r)] (bdM g ga co B' (natsI ks) ++ [])) ?_ ?_
  · refine call_fn (c114 ho8 f1 f2 (by omega) (by omega) _ hA5 hok5 H.bdAt') ?_
    rintro _ w5 ⟨A6, sv6, x, e, rfl, hm, hokn, ht⟩
    have hm := hm.made r1.there r2.there (end_there _)
    obtain ⟨rfl, hrep, hl⟩ := made_small hm (iteF_low hA5 _ _ _) ho8 hl5 (by decide)
    rw [ite_and r1 r2] at hrep
    exact ⟨(x, sv6, A6), ⟨rfl, rfl, trivial⟩, ⟨hokn, hm.inv, hl, hrep, r1.ext hA5.inv hm.inv.inv hm.ext, r2.ext hA5.inv hm.inv.inv hm.ext, r3.ext hA5.inv hm.inv.inv hm.ext, qx4.ext hA5.inv hm.inv.inv hm.ext, qx5.ext hA5.inv hm.inv.inv hm.ext⟩, H.turnBy 0 rfl ht⟩
  clear H hok5 hA5 hl5 r1 r2 r3 qx4 qx5
  rintro ⟨x6, sv6, A6⟩ u w7 ⟨⟨hok6, hA6, hl6, qx6, r1, r2, r3, qx4, qx5⟩, H⟩
  replace H : Hp _ _ _ _ _ := H
  refine cut_rule (γ := Int × Value × Ar) _ rfl (fun (x, _) => [(25, .int .i64 x), (26, .int .i64 0)]) (fun (x, sv7, A7) w' => (ArOk 20000 A7 ∧ BInv (natsI ks).length A7 ∧ liveA A7 ≤ 1785 ∧ Rep A7 x (fun a => FnS (natsI ks) r a || FnS (natsI ks) s a) ∧ Rep A7 f1 ((FnS (natsI ks) r)) ∧ Rep A7 f2 ((FnS (natsI ks) s)) ∧ Rep A7 f3 ((FnS (natsI ks) t)) ∧ Rep A7 x4 (fun a => if FnS (natsI ks) r a then FnS (natsI ks) s a else FnS (natsI ks) t a) ∧ Rep A7 x5 (fun a => !FnS (natsI ks) r a) ∧ Rep A7 x6 (fun a => FnS (natsI ks) r a && FnS (natsI ks) s a)) ∧ Hp w (fun _ => False) w' [arR ga q sv7 20000 A7, blk g8 24 (sc t), blk g7 24 (sc s), blk g6 24 (sc r)] (bdM g ga co B' (natsI ks) ++ [])) ?_ ?_
  · refine call_fn (c116 ho8 f1 f2 (by omega) (by omega) _ hA6 hok6 H.bdAt') ?_
    rintro _ w5 ⟨A7, sv7, x, e, rfl, hm, hokn, ht⟩
    have hm := hm.made r1.there (one_there _) r2.there
    obtain ⟨rfl, hrep, hl⟩ := made_small hm (iteF_low hA6 _ _ _) ho8 hl6 (by decide)
    rw [rep_or r1 r2] at hrep
    exact ⟨(x, sv7, A7), ⟨rfl, rfl, trivial⟩, ⟨hokn, hm.inv, hl, hrep, r1.ext hA6.inv hm.inv.inv hm.ext, r2.ext hA6.inv hm.inv.inv hm.ext, r3.ext hA6.inv hm.inv.inv hm.ext, qx4.ext hA6.inv hm.inv.inv hm.ext, qx5.ext hA6.inv hm.inv.inv hm.ext, qx6.ext hA6.inv hm.inv.inv hm.ext⟩, H.turnBy 0 rfl ht⟩
  clear H hok6 hA6 hl6 r1 r2 r3 qx4 qx5 qx6
  rintro ⟨x7, sv7, A7⟩ u w7 ⟨⟨hok7, hA7, hl7, qx7, r1, r2, r3, qx4, qx5, qx6⟩, H⟩
  replace H : Hp _ _ _ _ _ := H
  refine cut_rule (γ := Int × Int × Value × Ar) _ rfl (fun (x, e, _) => [(27, .int .i64 x), (28, .int .i64 e)]) (fun (x, e, sv8, A8) w' => (ArOk 20000 A8 ∧ BInv (natsI ks).length A8 ∧ Ext A7 A8 ∧
      ((¬ (0 ≤ input ∧ input < (natsI ks).length) ∧ x = 0 ∧ e = 1) ∨ ∃ i : Nat, input = i ∧ i < (natsI ks).length ∧ e = 0 ∧ Rep A8 x fun a => FnS (natsI ks) r a || FnS (natsI ks) r (upA a ((natsI ks).idxOf i) (!a ((natsI ks).idxOf i))))) ∧ Hp w (fun _ => False) w' [arR ga q sv8 20000 A8, blk g8 24 (sc t), blk g7 24 (sc s), blk g6 24 (sc r)] (bdM g ga co B' (natsI ks) ++ [])) ?_ ?_
  · refine call_fn (c129 ho ho8 f1 input (by omega) _ hA7 hok7 H.bdAt') ?_
    rintro _ w5 ⟨A8, sv8, x, e, rfl, hm, hok8, ht⟩
    refine ⟨(x, e, sv8, A8), ⟨rfl, rfl, trivial⟩, ?_, H.turnBy 0 rfl ht⟩
    rcases hm with ⟨hno, rfl, rfl, rfl⟩ | ⟨_, i, rfl, hi, hm⟩
    · exact ⟨hok8, hA7, Ext.refl _, .inl ⟨fun h => hno ⟨r1.there, h⟩, rfl, rfl⟩⟩
    · obtain ⟨rfl, hrep, _, hx, hI⟩ := some_small hm hA7 ho8 hl7 (by decide)
      exact ⟨hok8, hI, hx, .inr ⟨i, rfl, hi, rfl, hrep.congr fun a => by rw [r1.says, r1.says]⟩⟩
  clear H
  rintro ⟨x8, e8, sv8, A8⟩ u w8 ⟨⟨hok8, hA8, hx8, hsome⟩, H⟩
  replace H : Hp _ _ _ _ _ := H
  replace qx4 := qx4.ext hA7.inv hA8.inv hx8
  replace qx5 := qx5.ext hA7.inv hA8.inv hx8
  replace qx6 := qx6.ext hA7.inv hA8.inv hx8
  replace qx7 := qx7.ext hA7.inv hA8.inv hx8
  clear r1 r2 r3 hA7 hok7 hl7 hx8
  have bx4 := id_lt hok8 qx4.there
  have bx5 := id_lt hok8 qx5.there
  have bx6 := id_lt hok8 qx6.there
  have bx7 := id_lt hok8 qx7.there
  refine cut_rule (γ := Nat) _ rfl (fun g29 => [(29, .pointer (some ⟨g29, 0, none⟩))]) (fun g29 w' => Hp w (fun _ => False) w' [arR ga q sv8 20000 A8, blk g29 24 (sc (allN (natsI ks).length)), blk g8 24 (sc t), blk g7 24 (sc s), blk g6 24 (sc r)] (bdM g ga co B' (natsI ks) ++ [])) ?_ ?_
  · refine len_sl Try.underlying32 ?_
    have hc := fun w1 => c39 (natsI ks).length ho8 w1
    rw [hkl] at hc
    refine call_fn (hc _) ?_
    rintro _ w9 ⟨A, ca, rfl, hn⟩
    replace H := H.addNew hn
    clear hn
    refine call_fn (c38 (allFlags ks.length) (by simp [allFlags]) A ca _ (own_Sl (H.get 0 rfl))) ?_
    rintro _ w10 ⟨rfl, hk⟩
    replace H := H.same hk
    clear hk
    rw [flags_all]
    refine H.alloc 24 (cs := sc 0) zero24 sc_zero ?_
    clear H
    intro g29 w4 H
    refine H.storeSet 0 rfl ?_
    clear H
    intro w5 H
    rw [hkl]
    exact ⟨g29, ⟨rfl, trivial⟩, ((H.front 1 rfl).forget.front 1 rfl)⟩
  clear H
  rintro g29 u w9 H
  replace H : Hp _ _ _ _ _ := H
  refine cut_rule (γ := Nat) _ rfl (fun g => [(30, .pointer (some ⟨g, 0, none⟩))]) (fun g30 w' => Hp w (fun _ => False) w' [arR ga q sv8 20000 A8, blk g30 24 (sc (r &&& s ||| lessN t r)), blk g29 24 (sc (allN (natsI ks).length)), blk g8 24 (sc t), blk g7 24 (sc s), blk g6 24 (sc r)] (bdM g ga co B' (natsI ks) ++ [])) ?_ ?_
  · have hc := c110b ho x4 (by omega) _ hA8 hok8 H.bdAt'
    rw [if_pos qx4.there, ite_set ho hr ht hrz htz qx4] at hc
    refine call_fn hc ?_
    rintro _ w9 ⟨rfl, hk⟩
    replace H := H.same hk
    clear hk
    refine H.alloc 24 (cs := sc 0) zero24 sc_zero ?_
    clear H
    intro gx w4 H
    refine H.storeSet 0 rfl ?_
    clear H
    intro w5 H
    exact ⟨gx, ⟨rfl, trivial⟩, H.front 1 rfl⟩
  clear H qx4 bx4
  rintro g30 u w10 H
  replace H : Hp _ _ _ _ _ := H
  refine cut_rule (γ := Nat) _ rfl (fun g => [(32, .pointer (some ⟨g, 0, none⟩))]) (fun g32 w' => Hp w (fun _ => False) w' [arR ga q sv8 20000 A8, blk g32 24 (sc (lessN (allN (natsI ks).length) r)), blk g30 24 (sc (r &&& s ||| lessN t r)), blk g29 24 (sc (allN (natsI ks).length)), blk g8 24 (sc t), blk g7 24 (sc s), blk g6 24 (sc r)] (bdM g ga co B' (natsI ks) ++ [])) ?_ ?_
  · have hc := c110b ho x5 (by omega) _ hA8 hok8 H.bdAt'
    rw [if_pos qx5.there, not_set ho qx5] at hc
    refine call_fn hc ?_
    rintro _ w9 ⟨rfl, hk⟩
    replace H := H.same hk
    clear hk
    refine H.alloc 24 (cs := sc 0) zero24 sc_zero ?_
    clear H
    intro gx w4 H
    refine H.storeSet 0 rfl ?_
    clear H
    intro w5 H
    exact ⟨gx, ⟨rfl, trivial⟩, H.front 1 rfl⟩
  clear H qx5 bx5
  rintro g32 u w10 H
  replace H : Hp _ _ _ _ _ := H
  refine cut_rule (γ := Nat) _ rfl (fun g => [(34, .pointer (some ⟨g, 0, none⟩))]) (fun g34 w' => Hp w (fun _ => False) w' [arR ga q sv8 20000 A8, blk g34 24 (sc (r &&& s)), blk g32 24 (sc (lessN (allN (natsI ks).length) r)), blk g30 24 (sc (r &&& s ||| lessN t r)), blk g29 24 (sc (allN (natsI ks).length)), blk g8 24 (sc t), blk g7 24 (sc s), blk g6 24 (sc r)] (bdM g ga co B' (natsI ks) ++ [])) ?_ ?_
  · have hc := c110b ho x6 (by omega) _ hA8 hok8 H.bdAt'
    rw [if_pos qx6.there, and_set ho hr hrz qx6] at hc
    refine call_fn hc ?_
    rintro _ w9 ⟨rfl, hk⟩
    replace H := H.same hk
    clear hk
    refine H.alloc 24 (cs := sc 0) zero24 sc_zero ?_
    clear H
    intro gx w4 H
    refine H.storeSet 0 rfl ?_
    clear H
    intro w5 H
    exact ⟨gx, ⟨rfl, trivial⟩, H.front 1 rfl⟩
  clear H qx6 bx6
  rintro g34 u w10 H
  replace H : Hp _ _ _ _ _ := H
  refine cut_rule (γ := Nat) _ rfl (fun g => [(36, .pointer (some ⟨g, 0, none⟩))]) (fun g36 w' => Hp w (fun _ => False) w' [arR ga q sv8 20000 A8, blk g36 24 (sc (r ||| s)), blk g34 24 (sc (r &&& s)), blk g32 24 (sc (lessN (allN (natsI ks).length) r)), blk g30 24 (sc (r &&& s ||| lessN t r)), blk g29 24 (sc (allN (natsI ks).length)), blk g8 24 (sc t), blk g7 24 (sc s), blk g6 24 (sc r)] (bdM g ga co B' (natsI ks) ++ [])) ?_ ?_
  · have hc := c110b ho x7 (by omega) _ hA8 hok8 H.bdAt'
    rw [if_pos qx7.there, or_set ho hr hs hrz hsz qx7] at hc
    refine call_fn hc ?_
    rintro _ w9 ⟨rfl, hk⟩
    replace H := H.same hk
    clear hk
    refine H.alloc 24 (cs := sc 0) zero24 sc_zero ?_
    clear H
    intro gx w4 H
    refine H.storeSet 0 rfl ?_
    clear H
    intro w5 H
    exact ⟨gx, ⟨rfl, trivial⟩, H.front 1 rfl⟩
  clear H qx7 bx7
  rintro g36 u w10 H
  replace H : Hp _ _ _ _ _ := H
  have z1 : r &&& s < 2 ^ 256 := Nat.lt_of_le_of_lt Nat.and_le_left hr
  have z2 : r ||| s < 2 ^ 256 := Nat.or_lt_two_pow hr hs
  have z3 : lessN t r < 2 ^ 256 := setOf_lt _
  have z4 : lessN (allN (natsI ks).length) r < 2 ^ 256 := setOf_lt _
  have z5 : r &&& s ||| lessN t r < 2 ^ 256 := Nat.or_lt_two_pow z1 z3
  have z6 : allN (natsI ks).length < 2 ^ 256 := allN_lt _
  refine cut_rule (γ := Unit) _ rfl (fun _ => []) (fun _ w' => Hp w (fun _ => False) w' [arR ga q sv8 20000 A8, blk g8 24 (sc t), blk g7 24 (sc s), blk g6 24 (sc r)] (bdM g ga co B' (natsI ks) ++ [])) ?_ ?_
  · refine H.draw fol (by kernel_rfl) ?_
    clear H
    intro w11 H
    refine quiet _ (fun w H => H.loadAll 4 rfl agg24 size24 ⟨rfl, rfl⟩) ?_
    refine quiet _ (fun w H => H.loadAll 8 rfl agg24 size24 ⟨rfl, rfl⟩) ?_
    refine quiet _ (fun w H => H.loadAll 7 rfl agg24 size24 ⟨rfl, rfl⟩) ?_
    refine call_fn (c51 _ _ _) ?_
    rintro _ w15 ⟨rfl, hk⟩
    replace H := H.same hk
    clear hk
    refine ⟨.inl H, ?_⟩
    refine quiet _ (fun w H => H.loadAll 6 rfl agg24 size24 ⟨rfl, rfl⟩) ?_
    refine quiet _ (fun w H => H.loadAll 8 rfl agg24 size24 ⟨rfl, rfl⟩) ?_
    refine call_fn (c52 _ _ (by assumption) _) ?_
    rintro _ w19 ⟨rfl, hk⟩
    replace H := H.same hk
    clear hk
    refine ⟨.inl H, ?_⟩
    refine call_fn (c50 _ _ _) ?_
    rintro _ w22 ⟨rfl, hk⟩
    replace H := H.same hk
    clear hk
    refine ⟨.inl H, ?_⟩
    refine quiet _ (fun w H => bin_neq24 (by first | assumption | decide) (by first | assumption | decide) ⟨rfl, rfl⟩) ?_
    refine cond_no (bne_eq_false_iff_eq.2 (by omega)) ?_
    refine quiet _ (fun w H => H.loadAll 3 rfl agg24 size24 ⟨rfl, rfl⟩) ?_
    refine cond_no (bne_eq_false_iff_eq.2 (by omega)) ?_
    refine quiet _ (fun w H => H.loadAll 5 rfl agg24 size24 ⟨rfl, rfl⟩) ?_
    refine cond_no (bne_eq_false_iff_eq.2 (by omega)) ?_
    refine quiet _ (fun w H => H.loadAll 8 rfl agg24 size24 ⟨rfl, rfl⟩) ?_
    refine cond_no (bne_eq_false_iff_eq.2 (by omega)) ?_
    refine call_fn (c52 _ _ (by assumption) _) ?_
    rintro _ w37 ⟨rfl, hk⟩
    replace H := H.same hk
    clear hk
    refine ⟨.inl H, ?_⟩
    refine cond_no (bne_eq_false_iff_eq.2 (by omega)) ?_
    refine quiet _ (fun w H => bin_neq24 z4 z4 ⟨rfl, rfl⟩) ?_
    iterate 2 refine cond_no (bne_eq_false_iff_eq.2 (by omega)) ?_
    refine quiet _ (fun w H => H.loadAll 2 rfl agg24 size24 ⟨rfl, rfl⟩) ?_
    refine cond_no (bne_eq_false_iff_eq.2 (by omega)) ?_
    refine quiet _ (fun w H => H.loadAll 8 rfl agg24 size24 ⟨rfl, rfl⟩) ?_
    refine cond_no (bne_eq_false_iff_eq.2 (by omega)) ?_
    refine quiet _ (fun w H => H.loadAll 7 rfl agg24 size24 ⟨rfl, rfl⟩) ?_
    refine cond_no (bne_eq_false_iff_eq.2 (by omega)) ?_
    refine call_fn (c51 _ _ _) ?_
    rintro _ w25 ⟨rfl, hk⟩
    replace H := H.same hk
    clear hk
    refine ⟨.inl H, ?_⟩
    refine cond_no (bne_eq_false_iff_eq.2 (by omega)) ?_
    refine quiet _ (fun w H => bin_neq24 z1 z1 ⟨rfl, rfl⟩) ?_
    iterate 2 refine cond_no (bne_eq_false_iff_eq.2 (by omega)) ?_
    refine quiet _ (fun w H => H.loadAll 1 rfl agg24 size24 ⟨rfl, rfl⟩) ?_
    refine cond_no (bne_eq_false_iff_eq.2 (by omega)) ?_
    refine quiet _ (fun w H => H.loadAll 8 rfl agg24 size24 ⟨rfl, rfl⟩) ?_
    refine cond_no (bne_eq_false_iff_eq.2 (by omega)) ?_
    refine quiet _ (fun w H => H.loadAll 7 rfl agg24 size24 ⟨rfl, rfl⟩) ?_
    refine cond_no (bne_eq_false_iff_eq.2 (by omega)) ?_
    refine call_fn (c50 _ _ _) ?_
    rintro _ w43 ⟨rfl, hk⟩
    replace H := H.same hk
    clear hk
    refine ⟨.inl H, ?_⟩
    refine cond_no (bne_eq_false_iff_eq.2 (by omega)) ?_
    refine quiet _ (fun w H => bin_neq24 z2 z2 ⟨rfl, rfl⟩) ?_
    iterate 2 refine cond_no (bne_eq_false_iff_eq.2 (by omega)) ?_
    exact ⟨(), trivial, (((((H.front 1 rfl).forget.front 1 rfl).forget.front 1 rfl).forget.front 1 rfl).forget.front 1 rfl).forget⟩
  clear H
  rintro ⟨⟩ u w11 H
  replace H : Hp _ _ _ _ _ := H
  rcases hsome with ⟨hno, rfl, rfl⟩ | ⟨i, rfl, hi, rfl, hrep⟩
  · rw [hkl] at hno
    by_cases h0 : input < 0
    · iterate 5 refine cond_yes (decide_eq_true (by assumption)) ?_
      iterate 5 refine cond_yes rfl ?_
      refine call_fn (c106 _) ?_
      rintro _ w23 ⟨rfl, hk⟩
      replace H := H.same hk
      clear hk
      refine cond_yes rfl ?_
      exact ⟨rfl, H.keeps⟩
    · have h1 : (ks.length : Int) ≤ input := by omega
      iterate 3 refine cond_no (decide_eq_false (by assumption)) ?_
      refine len_sl Try.underlying32 ?_
      iterate 2 refine cond_no (decide_eq_false (by assumption)) ?_
      refine cond_yes (decide_eq_true (by assumption)) ?_
      iterate 4 refine cond_yes rfl ?_
      refine call_fn (c106 _) ?_
      rintro _ w24 ⟨rfl, hk⟩
      replace H := H.same hk
      clear hk
      refine cond_yes rfl ?_
      exact ⟨rfl, H.keeps⟩
  have hset := some_set ho hr hrz hi hrep
  have hi' : i < ks.length := by omega
  have bx8 := id_lt hok8 hrep.there
  have hpl : (pts r).length ≤ 256 := bitsBelow_le r 256
  have hpt : ∀ x, x ∈ pts r → x < 2 ^ (natsI ks).length := fun x hx => less_all hr hrz x (mem_bitsBelow.1 hx).2
  have h256 := pow_le_256 ho8
  refine cut_rule (γ := Unit) _ rfl (fun _ => []) (fun _ w' => Hp w (fun _ => False) w' [arR ga q sv8 20000 A8, blk g8 24 (sc t), blk g7 24 (sc s), blk g6 24 (sc r)] (bdM g ga co B' (natsI ks) ++ [])) ?_ ?_
  · iterate 3 refine cond_no rfl ?_
    refine len_sl Try.underlying32 ?_
    iterate 2 refine cond_no rfl ?_
    refine cond_no (decide_eq_false (by omega)) ?_
    exact ⟨(), trivial, H⟩
  clear H
  rintro ⟨⟩ u w12 H
  replace H : Hp _ _ _ _ _ := H
  refine cut_rule (γ := Nat) _ rfl (fun gw => [(38, .slice (some ⟨gw, 0, none⟩) 256 256)]) (fun gw w' => Hp w (fun _ => False) w' [arR ga q sv8 20000 A8, own 4 1 (.slice (some ⟨gw, 0, none⟩) 256 256) 256 (bls (wantL [] i)), blk g8 24 (sc t), blk g7 24 (sc s), blk g6 24 (sc r)] (bdM g ga co B' (natsI ks) ++ [])) ?_ ?_
  · refine H.make T29 256 rfl rfl (by omega) (by omega) ?_
    clear H
    intro gw w13 H
    have e : bls (wantL [] i) = List.replicate 256 (.bool false) := by rw [wantL_nil]; exact List.map_replicate
    rw [madeBool, ← e] at H
    exact ⟨gw, ⟨rfl, trivial⟩, H.front 1 rfl⟩
  clear H
  rintro gw u w13 H
  replace H : Hp _ _ _ _ _ := H
  refine cut_rule (γ := Option Addr × Nat) _ rfl (fun (C, d) => [(39, .slice C (pts r).length d)]) (fun (C, d) w' => Hp w (fun _ => False) w' [arR ga q sv8 20000 A8, own 4 1 (.slice (some ⟨gw, 0, none⟩) 256 256) 256 (bls (wantL [] i)), own 3 1 (.slice C (pts r).length d) (pts r).length (ints (pts r)), blk g8 24 (sc t), blk g7 24 (sc s), blk g6 24 (sc r)] (bdM g ga co B' (natsI ks) ++ [])) ?_ ?_
  · refine H.loadAll 4 rfl agg24 size24 ?_
    refine call_fn (c42 r _) ?_
    rintro _ w14 ⟨C, d, rfl, hn⟩
    exact ⟨(C, d), ⟨rfl, trivial⟩, (((H.addNew hn).front 2 rfl).front 2 rfl)⟩
  clear H
  rintro ⟨C, d⟩ u w14 H
  replace H : Hp _ _ _ _ _ := H
  refine cut_rule (γ := Unit) _ rfl (fun _ => []) (fun _ w' => Hp w (fun _ => False) w' [arR ga q sv8 20000 A8, own 4 1 (.slice (some ⟨gw, 0, none⟩) 256 256) 256 (bls (wantL (pts r) i)), own 3 1 (.slice C (pts r).length d) (pts r).length (ints (pts r)), blk g8 24 (sc t), blk g7 24 (sc s), blk g6 24 (sc r)] (bdM g ga co B' (natsI ks) ++ [])) ?_ ?_
  · refine loop_rule (γ := Nat) _ rfl (fun j => [(40, .int .i64 (j : Int))]) (fun j w' => j ≤ (pts r).length ∧ Hp w (fun _ => False) w' [arR ga q sv8 20000 A8, own 4 1 (.slice (some ⟨gw, 0, none⟩) 256 256) 256 (bls (wantL ((pts r).take j) i)), own 3 1 (.slice C (pts r).length d) (pts r).length (ints (pts r)), blk g8 24 (sc t), blk g7 24 (sc s), blk g6 24 (sc r)] (bdM g ga co B' (natsI ks) ++ [])) (fun j => (pts r).length - j) 0 ⟨rfl, trivial⟩ ⟨Nat.zero_le _, H⟩ ?_
    clear H
    rintro j u w15 ⟨hj, H⟩
    replace H : Hp _ _ _ _ _ := H
    refine len_sl Try.underlying32 ?_
    refine cond_dec (fun h7 => ?_) (fun h7 => ?_)
    · have hjl : j < (pts r).length := by omega
      obtain ⟨x, hx⟩ : ∃ x, (pts r)[j]? = some x := ⟨_, List.getElem?_eq_getElem hjl⟩
      have hxm := List.mem_of_getElem? hx
      have hx2 := hpt x hxm
      have hfl := flip_lt hx2 (show i < (natsI ks).length from hi)
      have hgx : (ints (pts r))[j]? = some (.int .i64 (x : Int)) := by rw [ints, List.getElem?_map, hx]; rfl
      have htk : (pts r).take (j + 1) = (pts r).take j ++ [x] := by rw [List.take_add_one, hx]; rfl
      obtain ⟨gC, rfl⟩ := H.ownA 2 rfl (by omega)
      have hpow : ∀ m, m ≤ 8 → 2 ^ m ≤ 256 := fun m hm => pow_le_256 hm
      refine cut_rule (γ := Unit) _ rfl (fun _ => []) (fun _ w' => Hp w (fun _ => False) w' [arR ga q sv8 20000 A8, own 4 1 (.slice (some ⟨gw, 0, none⟩) 256 256) 256 (bls (wantL ((pts r).take (j + 1)) i)), own 3 1 (.slice (some ⟨gC, 0, none⟩) (pts r).length d) (pts r).length (ints (pts r)), blk g8 24 (sc t), blk g7 24 (sc s), blk g6 24 (sc r)] (bdM g ga co B' (natsI ks) ++ [])) ?_ ?_
      · refine cut_rule (γ := Unit) _ rfl (fun _ => [(41, .int .i64 1)]) (fun _ w' => Hp w (fun _ => False) w' [arR ga q sv8 20000 A8, own 4 1 (.slice (some ⟨gw, 0, none⟩) 256 256) 256 (bls (wantL ((pts r).take j) i)), own 3 1 (.slice (some ⟨gC, 0, none⟩) (pts r).length d) (pts r).length (ints (pts r)), blk g8 24 (sc t), blk g7 24 (sc s), blk g6 24 (sc r)] (bdM g ga co B' (natsI ks) ++ [])) ⟨(), ⟨rfl, trivial⟩, H⟩ ?_
        clear H
        rintro ⟨⟩ u w16 H
        replace H : Hp _ _ _ _ _ := H
        refine cut_rule (γ := Unit) _ rfl (fun _ => [(41, .int .i64 ((2 ^ i : Nat) : Int))]) (fun _ w' => Hp w (fun _ => False) w' [arR ga q sv8 20000 A8, own 4 1 (.slice (some ⟨gw, 0, none⟩) 256 256) 256 (bls (wantL ((pts r).take j) i)), own 3 1 (.slice (some ⟨gC, 0, none⟩) (pts r).length d) (pts r).length (ints (pts r)), blk g8 24 (sc t), blk g7 24 (sc s), blk g6 24 (sc r)] (bdM g ga co B' (natsI ks) ++ [])) ?_ ?_
        · refine loop_rule (γ := Nat) _ rfl (fun m => [(42, .int .i64 (m : Int)), (41, .int .i64 ((2 ^ m : Nat) : Int))]) (fun m w' => m ≤ i ∧ Hp w (fun _ => False) w' [arR ga q sv8 20000 A8, own 4 1 (.slice (some ⟨gw, 0, none⟩) 256 256) 256 (bls (wantL ((pts r).take j) i)), own 3 1 (.slice (some ⟨gC, 0, none⟩) (pts r).length d) (pts r).length (ints (pts r)), blk g8 24 (sc t), blk g7 24 (sc s), blk g6 24 (sc r)] (bdM g ga co B' (natsI ks) ++ [])) (fun m => i - m) 0 ⟨rfl, rfl, trivial⟩ ⟨Nat.zero_le _, H⟩ ?_
          clear H
          rintro m u w17 ⟨hm, H⟩
          replace H : Hp _ _ _ _ _ := H
          refine cond_dec (fun h9 => ?_) (fun h9 => ?_)
          · have h2 := hpow m (by omega)
            have e : 2 ^ (m + 1) = 2 ^ m * 2 := Nat.pow_succ ..
            exact ⟨m + 1, by show i - (m + 1) < i - m; omega, ⟨up (by omega), congrArg (Value.int .i64) (by rw [wrap_i64_in (by omega) (by omega)]; omega), trivial⟩, by show m + 1 ≤ i; omega, H⟩
          · obtain rfl : m = i := by omega
            exact ⟨(), ⟨rfl, trivial⟩, H⟩
        clear H
        rintro ⟨⟩ u w17 H
        replace H : Hp _ _ _ _ _ := H
        have h2i := hpow i (by omega)
        refine cut_rule (γ := Unit) _ rfl (fun _ => []) (fun _ w' => Hp w (fun _ => False) w' [arR ga q sv8 20000 A8, own 4 1 (.slice (some ⟨gw, 0, none⟩) 256 256) 256 (bls ((wantL ((pts r).take j) i).set x true)), own 3 1 (.slice (some ⟨gC, 0, none⟩) (pts r).length d) (pts r).length (ints (pts r)), blk g8 24 (sc t), blk g7 24 (sc s), blk g6 24 (sc r)] (bdM g ga co B' (natsI ks) ++ [])) ?_ ?_
        · refine idxAddr_sl Try.underlying32 (s := 1) size3 j rfl hjl (o' := j) (by omega) ?_
          refine H.loadOwn 2 rfl agg3 hgx ?_
          refine idxAddr_sl Try.underlying29 (s := 1) size4 x rfl (by omega) (o' := x) (by omega) ?_
          refine H.storeOwn 1 rfl size4 (by rw [bls, List.length_map, wantL_length]; omega) rfl ?_
          clear H
          intro w18 H
          rw [show (bls (wantL ((pts r).take j) i)).set x (.bool true) = bls ((wantL ((pts r).take j) i).set x true) from List.map_set.symm] at H
          exact ⟨(), trivial, H⟩
        clear H
        rintro ⟨⟩ u w18 H
        replace H : Hp _ _ _ _ _ := H
        have hsn := wantL_snoc ((pts r).take j) i x
        rw [← htk] at hsn
        have hfin : ∀ w2 gx, gx = x ^^^ 2 ^ i → Hp w (fun _ => False) w2 [arR ga q sv8 20000 A8, own 4 1 (.slice (some ⟨gw, 0, none⟩) 256 256) 256 ((bls ((wantL ((pts r).take j) i).set x true)).set gx (.bool true)), own 3 1 (.slice (some ⟨gC, 0, none⟩) (pts r).length d) (pts r).length (ints (pts r)), blk g8 24 (sc t), blk g7 24 (sc s), blk g6 24 (sc r)] (bdM g ga co B' (natsI ks) ++ []) →
            Hp w (fun _ => False) w2 [arR ga q sv8 20000 A8, own 4 1 (.slice (some ⟨gw, 0, none⟩) 256 256) 256 (bls (wantL ((pts r).take (j + 1)) i)), own 3 1 (.slice (some ⟨gC, 0, none⟩) (pts r).length d) (pts r).length (ints (pts r)), blk g8 24 (sc t), blk g7 24 (sc s), blk g6 24 (sc r)] (bdM g ga co B' (natsI ks) ++ []) := fun w2 gx hgx H => by
          subst hgx
          rw [← hsn]
          rwa [show (bls ((wantL ((pts r).take j) i).set x true)).set (x ^^^ 2 ^ i) (.bool true) = bls (((wantL ((pts r).take j) i).set x true).set (x ^^^ 2 ^ i) true) from List.map_set.symm] at H
        refine idxAddr_sl Try.underlying32 (s := 1) size3 j rfl hjl (o' := j) (by omega) ?_
        refine H.loadOwn 2 rfl agg3 hgx ?_
        refine call_fn (c48 x i (by omega) (by omega) _) ?_
        rintro _ w19 ⟨rfl, hk⟩
        replace H := H.same hk
        clear hk
        refine cond_beq (fun hb => ?_) (fun hb => ?_)
        · have hbit : x.testBit i = true := by
            have := div_pow_mod x i
            rw [decide_eq_true hb] at this
            exact this.symm
          obtain ⟨hle, hfe⟩ := flip_down hbit
          refine idxAddr_sl Try.underlying32 (s := 1) size3 j rfl hjl (o' := j) (by omega) ?_
          refine H.loadOwn 2 rfl agg3 hgx ?_
          refine idxAddr_sl Try.underlying29 (s := 1) size4 (x ^^^ 2 ^ i) (by rw [wrap_i64_in (by omega) (by omega)]; omega) (by omega) (o' := x ^^^ 2 ^ i) (by omega) ?_
          refine H.storeOwn 1 rfl size4 (by rw [bls, List.length_map, List.length_set, wantL_length]; omega) rfl ?_
          clear H
          intro w20 H
          exact ⟨(), trivial, hfin _ _ rfl H⟩
        · have hbit : x.testBit i = false := by
            have := div_pow_mod x i
            rw [decide_eq_false hb] at this
            exact this.symm
          have hfe := flip_up hbit
          refine idxAddr_sl Try.underlying32 (s := 1) size3 j rfl hjl (o' := j) (by omega) ?_
          refine H.loadOwn 2 rfl agg3 hgx ?_
          refine idxAddr_sl Try.underlying29 (s := 1) size4 (x ^^^ 2 ^ i) (by rw [wrap_i64_in (by omega) (by omega)]; omega) (by omega) (o' := x ^^^ 2 ^ i) (by omega) ?_
          refine H.storeOwn 1 rfl size4 (by rw [bls, List.length_map, List.length_set, wantL_length]; omega) rfl ?_
          clear H
          intro w20 H
          exact ⟨(), trivial, hfin _ _ rfl H⟩
      · clear H
        rintro ⟨⟩ u w16 H
        exact ⟨j + 1, by show (pts r).length - (j + 1) < (pts r).length - j; omega, ⟨up (by omega), trivial⟩, by show j + 1 ≤ (pts r).length; omega, H⟩
    · rw [List.take_of_length_le (by omega)] at H
      exact ⟨(), trivial, H⟩
  clear H
  rintro ⟨⟩ u w15 H
  replace H : Hp _ _ _ _ _ := H
  have hwant := someN_want (n := (natsI ks).length) hr (less_all hr hrz) hi ho8
  have hsl : someN r i < 2 ^ 256 := setOf_lt _
  refine cut_rule (γ := Nat) _ rfl (fun g43 => [(43, .pointer (some ⟨g43, 0, none⟩))]) (fun g43 w' => Hp w (fun _ => False) w' [blk g43 24 (sc (someN r i)), own 4 1 (.slice (some ⟨gw, 0, none⟩) 256 256) 256 (bls (wantL (pts r) i))] (bdM g ga co B' (natsI ks) ++ [])) ?_ ?_
  · have hc := c110b ho x8 (by omega) _ hA8 hok8 H.bdAt'
    rw [if_pos hrep.there, hset] at hc
    refine call_fn hc ?_
    rintro _ w9 ⟨rfl, hk⟩
    replace H := H.same hk
    clear hk
    refine H.alloc 24 (cs := sc 0) zero24 sc_zero ?_
    clear H
    intro gx w4 H
    refine H.storeSet 0 rfl ?_
    clear H
    intro w5 H
    exact ⟨gx, ⟨rfl, trivial⟩, ((H.front 1 rfl).forget.takeN 2)⟩
  clear H
  rintro g43 u w16 H
  replace H : Hp _ _ _ _ _ := H
  have hc := fun w1 hs => c38 (wantL (pts r) i) (wantL_length _ _) (some ⟨gw, 0, none⟩) 256 w1 hs
  rw [hwant] at hc
  refine H.draw fol (by kernel_rfl) ?_
  clear H
  intro w17 H
  refine cond_yes rfl ?_
  refine quiet _ (fun w H => H.loadAll 0 rfl agg24 size24 ⟨rfl, rfl⟩) ?_
  iterate 2 refine cond_yes rfl ?_
  refine call_fn (hc _ (own_Sl (H.get 1 rfl))) ?_
  rintro _ w23 ⟨rfl, hk⟩
  replace H := H.same hk
  refine ⟨.inl H, ?_⟩
  refine cond_yes rfl ?_
  refine quiet _ (fun w H => bin_eql24 (by first | assumption | decide) (by first | assumption | decide) ⟨rfl, rfl⟩) ?_
  refine cond_yes rfl ?_
  refine cond_yes (beq_self_eq_true _) ?_
  refine call_fn (c106 _) ?_
  rintro _ w31 ⟨rfl, hk⟩
  replace H := H.same hk
  clear hk
  refine ⟨.inl H, ?_⟩
  refine cond_yes (beq_self_eq_true _) ?_
  exact ⟨rfl, H.keeps⟩
theorem law27 (v : Value) (r : Nat) (hr : r < 2 ^ 256) (s : Nat) (hs : s < 2 ^ 256) (t : Nat) (ht : t < 2 ^ 256) (input : Int) (w : World) {ks : List Int} (hk : IntsAt w v ks) : Fun Try.prog 27 [v, sv r, sv s, sv t, .int .i64 input] w fun v w' => v = .bool true ∧ Same w w' := by
  obtain ⟨B, c, rfl, hl, _, hS⟩ := hk
  exact law27_m ks B c r s t hr hs ht input w hl hS
end Go.Proofs.Ytjebpngdinbckaa
end

section
/- Slices cut short at their room; append that makes a new slice. -/
namespace Go.Dk
section
variable {P : Program} {w0 w w' : World} {F : Nat → Prop} {L M : List Res} {k kk : Value → World → Prop}
/-- s[:i:i]. -/
theorem Sl.sliceHM {t e : TypeId} {sz l c i : Nat} {A : Option Addr} {xs : List Value} {kd kd' : IntKind} {j j' : Int} (hs : Sl w (.slice A l c) sz l xs) (ht : P.underlying t = some (.slice e)) (hz : sizeT P e = some sz) (hj : j = (i : Int)) (hj' : j' = (i : Int)) (hi : i ≤ l)
    (h : ∀ A', Sl w (.slice A' i i) sz i (xs.take (i * sz)) → kk (.slice A' i i) w) : sliceK P t (.slice A l c) none (some (.int kd j)) (some (.int kd' j')) w kk := by
  subst hj; subst hj'
  obtain ⟨hlen, A1, c1, hv, hlc, hcase⟩ := hs
  injection hv with e1 _ e2
  subst e1; subst e2
  unfold sliceK
  refine ⟨sliced A 0 i i sz, w, ?_, ?_⟩
  · rw [run_sliceAt_slice w t _ _ _ _ (elemOf ht), run_slice_hm w t A l c (elemOf ht) kd kd' (i : Int) (i : Int) (by omega) (by omega) (by omega), elemIs ht, run_sizeOf hz]
    rfl
  · have e : sliced A 0 i i sz = .slice (if i = 0 then A else A.map (·.add 0)) i i := by unfold sliced; simp
    rw [e]
    refine h _ ?_
    rcases Nat.eq_zero_or_pos i with rfl | h0
    · exact Sl.empty rfl (by simp)
    · rcases hcase with h1 | ⟨g, o, rfl, hg, hx⟩
      · omega
      · refine ⟨?_, _, i, rfl, by omega, .inr ⟨g, o, ?_, hg, fun j hj => ?_⟩⟩
        · rw [List.length_take, hlen]
          have := Nat.mul_le_mul_right sz hi
          omega
        · rw [if_neg (by omega)]
          simp [addr_add]
        · have := Nat.mul_le_mul_right sz hi
          rw [hx j (by omega), List.getElem?_take]
          rw [if_pos hj]
/-- The same, where the value is to be named ahead of the world. -/
theorem slice_hm {t e : TypeId} {sz l c i : Nat} {A : Option Addr} {kd kd' : IntKind} {j j' : Int} (ht : P.underlying t = some (.slice e)) (hz : sizeT P e = some sz) (hj : j = (i : Int)) (hj' : j' = (i : Int)) (hi : i ≤ c)
    (h : kk (sliced A 0 i i sz) w) : sliceK P t (.slice A l c) none (some (.int kd j)) (some (.int kd' j')) w kk := by
  subst hj; subst hj'
  unfold sliceK
  refine ⟨sliced A 0 i i sz, w, ?_, h⟩
  rw [run_sliceAt_slice w t _ _ _ _ (elemOf ht), run_slice_hm w t A l c (elemOf ht) kd kd' (i : Int) (i : Int) (by omega) (by omega) (by omega), elemIs ht, run_sizeOf hz]
  rfl
theorem slice_l {t e : TypeId} {sz l c i : Nat} {A : Option Addr} {kd : IntKind} {j : Int} (ht : P.underlying t = some (.slice e)) (hz : sizeT P e = some sz) (hj : j = (i : Int)) (hi : i ≤ l)
    (h : kk (sliced A i l c sz) w) : sliceK P t (.slice A l c) (some (.int kd j)) none none w kk := by
  subst hj
  unfold sliceK
  refine ⟨sliced A i l c sz, w, ?_, h⟩
  rw [run_sliceAt_slice w t _ _ _ _ (elemOf ht), run_slice_l w t A l c (elemOf ht) kd (i : Int) (by omega) (by omega), elemIs ht, run_sizeOf hz]
  rfl
theorem sliced_hm {sz l c i : Nat} {A : Option Addr} {xs : List Value} (hs : Sl w (.slice A l c) sz l xs) (hi : i ≤ l) : ∃ A', sliced A 0 i i sz = .slice A' i i ∧ (A' = none → i = 0) ∧ Sl w (.slice A' i i) sz i (xs.take (i * sz)) := by
  obtain ⟨hlen, A1, c1, hv, hlc, hcase⟩ := hs
  injection hv with e1 _ e2
  subst e1; subst e2
  have e : sliced A 0 i i sz = .slice (if i = 0 then A else A.map (·.add 0)) i i := by unfold sliced; simp
  refine ⟨_, e, ?_, ?_⟩
  · intro hn
    split at hn
    · assumption
    · rcases hcase with h1 | ⟨g, o, rfl, hg, hx⟩
      · omega
      · cases hn
  · rcases Nat.eq_zero_or_pos i with rfl | h0
    · exact Sl.empty rfl (by simp)
    · rcases hcase with h1 | ⟨g, o, rfl, hg, hx⟩
      · omega
      · refine ⟨?_, _, i, rfl, by omega, .inr ⟨g, o, ?_, hg, fun j hj => ?_⟩⟩
        · rw [List.length_take, hlen]
          have := Nat.mul_le_mul_right sz hi
          omega
        · rw [if_neg (by omega)]
          simp [addr_add]
        · have := Nat.mul_le_mul_right sz hi
          rw [hx j (by omega), List.getElem?_take]
          rw [if_pos hj]
theorem sliced_l {t e : TypeId} {sz l c i : Nat} {A : Option Addr} {xs : List Value} (ht : P.underlying t = some (.slice e)) (hz : sizeT P e = some sz) (hs : Sl w (.slice A l c) sz l xs) (hi : i ≤ l) : ∃ A' c', sliced A i l c sz = .slice A' (l - i) c' ∧ Sl w (.slice A' (l - i) c') sz (l - i) (xs.drop (i * sz)) := by
  have e : sliced A i l c sz = .slice (if c = i then A else A.map (·.add (i * sz))) (l - i) (c - i) := rfl
  have h := hs.sliceFrom (kk := fun v _ => ∃ A' c', v = .slice A' (l - i) c' ∧ Sl w (.slice A' (l - i) c') sz (l - i) (xs.drop (i * sz))) (kd := .i64) (j := (i : Int)) ht hz rfl hi (fun A' c' h => ⟨A', c', rfl, h⟩)
  unfold sliceK at h
  obtain ⟨v, w2, hr, hk⟩ := h
  rw [run_sliceAt_slice w t _ _ _ _ (elemOf ht), run_slice_l w t A l c (elemOf ht) .i64 (i : Int) (by omega) (by omega), elemIs ht, run_sizeOf hz] at hr
  have hr' : Result.ok (sliced A (i : Int).toNat l c sz) w = Result.ok v w2 := hr
  injection hr' with h1 h2
  rw [← h1] at hk
  exact hk
theorem Sl.cells {sz l c : Nat} {a : Addr} {xs : List Value} (hs : Sl w (.slice (some a) l c) sz l xs) : ∀ j u, xs[j]? = some u → w.cell? (a.add j) = some u := fun j u hu => by
  have hjl := (List.getElem?_eq_some_iff.1 hu).1
  have hl := hs.1
  have hc : 0 < l := by
    rcases Nat.eq_zero_or_pos l with h0 | h0
    · subst h0; simp at hl; subst hl; simp at hjl
    · exact h0
  obtain ⟨g', o', ha⟩ := hs.A hc
  injection ha with ha
  subst ha
  rw [addr_add, hs.cell j (by omega), hu]
/-- append onto a slice that has no more room: a new one. -/
theorem Hp.appendNew (H : Hp w0 F w L M) {t e ty : TypeId} {z : Value} {sz b l m c : Nat} {A D : Option Addr} {xs ys : List Value} {cst : Array Bool} (T : SlT P t e z sz b)
    (hs : Sl w (.slice A l l) sz l xs) (hn : Sl w (.slice D m c) sz m ys) (hA : A = none → l = 0) (hm : 0 < m) (hl : (l + m) * b ≤ 140737488355328) (hl' : l + m < 1152921504606846976)
    (h : ∀ g c' w', Hp w0 F w' (own e sz (.slice (some ⟨g, 0, none⟩) (l + m) c') (l + m) (xs ++ ys) :: L) M → kk (.slice (some ⟨g, 0, none⟩) (l + m) c') w') : builtinK P .append #[t, t] ty cst [.slice A l l, .slice D m c] w kk := by
  obtain ⟨i, hi, hz, hsz, hb⟩ := T.parts
  subst hsz; subst hb
  obtain ⟨g', o', rfl⟩ := hn.A hm
  have hlen : (xs ++ ys).length = (l + m) * i.size := by rw [List.length_append, hs.1, hn.1, Nat.add_mul]
  have hml : l + m ≤ maxLen := by unfold maxLen; omega
  have hfit := growslice_fits (need := l + m) (old := l) (by omega) hl
  have grown : ∀ (old : Nat), old < l + m →
      Hp w0 F (w.drew.alloc (.cells (xs.toArray ++ ys.toArray ++ Builtin.zeroCells z.cells (grownCap w (l + m) old e - (l + m))) e)) (own e i.size (.slice (some ⟨w.heap.size, 0, none⟩) (l + m) (grownCap w (l + m) old e)) (l + m) (xs ++ ys) :: L) M := by
    intro old ho
    have hge := grownCap_ge w (l + m) old e
    have hcm : grownCap w (l + m) old e ≤ maxLen := grownCap_le_maxLen w (l + m) old e hml
    refine H.add ((Keeps.drew w).trans (Keeps.alloc _ _) (fun _ _ h => h)) _ ⟨hlen, .inr ⟨w.heap.size, _, _, rfl, Nat.zero_le _, heap_alloc_new w.drew _, hge, hcm, ?_, ?_⟩⟩ ?_
    · simp only [Array.size_append, List.size_toArray, size_zeroCells, T.zs, hs.1, hn.1, ← Nat.add_mul]
      congr 1
      omega
    · simp only [Array.toList_append, List.append_assoc]
      rw [← List.append_assoc, ← hlen]
      exact List.take_left
    · intro x hx
      have hx : some w.heap.size = some x := hx
      injection hx with hx
      subst hx
      exact ⟨Nat.le_refl _, by simp⟩
  rcases A with _ | a
  · have h0 := hA rfl
    subst h0
    have hx : xs = [] := List.eq_nil_of_length_eq_zero (by simpa using hs.1)
    subst hx
    have hgr := grown 0 (by omega)
    rw [Nat.zero_add] at *
    unfold builtinK
    refine ⟨_, _, ?_, h _ _ _ hgr⟩
    show (do pure (.value (← Builtin.append_ #[t, t] ty #[.slice none 0 0, .slice (some ⟨g', o', none⟩) m c])) : Sem Next).run P w = _
    rw [Sem.run_bind, run_append_nil w t ty e i z T.und hi hz _ m c ys hn.1 hn.cells hm (by unfold maxLen at hml; omega) (by omega)]
    simp [Result.andThen]
  · have hgr := grown l (by omega)
    unfold builtinK
    refine ⟨_, _, ?_, h _ _ _ hgr⟩
    show (do pure (.value (← Builtin.append_ #[t, t] ty #[.slice (some a) l l, .slice (some ⟨g', o', none⟩) m c])) : Sem Next).run P w = _
    rw [Sem.run_bind, run_append_grow w t ty e i z T.und hi hz a l l xs hs.1 hs.cells _ m c ys hn.1 hn.cells (by omega) (by unfold maxLen at hml; omega) hfit]
    rfl
end
end Go.Dk
end

section
/- More arguments of laws, opened: lists of sets. -/
namespace Go.Proofs.Ytjebpngdinbckaa
open Go.Dk Go.ChangeShapes Go.WideShapes Go.ChangeAt Go.RowKit
def encZ (s : Nat) : List Value := (sc s).toList
theorem encZ_length (s : Nat) : (encZ s).length = 4 := rfl
def SetsAt (w : World) (v : Value) (l : List Nat) : Prop := ∃ B c, v = .slice B l.length c ∧ l.length ≤ 9223372036854775807 ∧ (∀ s ∈ l, s < 2 ^ 256) ∧ Sl w (.slice B l.length c) 4 l.length (flat encZ l)
section
variable {H : Type} {enc : TypeId × Value → H} {w : World} {base b : Nat} {spare : Nat → Bool} {held : Bool}
theorem cells24 : Try.prog.cellsOf 24 = 4 := by kernel_rfl
theorem cells22 : Try.prog.cellsOf 22 = 1 := by kernel_rfl
set_option maxRecDepth 100000 in
theorem set_at {fuel : Nat} {r : List Value} {x : DataW H × List MemPlace} (h : DataW.trod enc Try.prog w base spare held fuel 24 r = some x) : ∃ n, n < 2 ^ 256 ∧ r = encZ n := by
  have hl : r.length = 4 := by
    obtain ⟨ys, m, _, _, hl, _, _⟩ := DataW.trod_array Try.underlying24 h
    rw [cells24] at hl
    exact hl
  match r, hl, h with
  | [c0, c1, c2, c3], _, hf =>
    obtain ⟨y0, y1, y2, y3, n, _, k0, k1, k2, k3⟩ := trod_array4 Try.underlying24 cells22 hf
    obtain ⟨n0, rfl, l0⟩ := word_at Try.underlying22 k0
    obtain ⟨n1, rfl, l1⟩ := word_at Try.underlying22 k1
    obtain ⟨n2, rfl, l2⟩ := word_at Try.underlying22 k2
    obtain ⟨n3, rfl, l3⟩ := word_at Try.underlying22 k3
    obtain ⟨n, hn, he⟩ := sv_of l0 l1 l2 l3
    refine ⟨n, hn, ?_⟩
    unfold sv at he
    injection he with he
    unfold encZ
    rw [← he]
set_option maxRecDepth 100000 in
theorem arg_sets {v : Value} {d : DataW H} {ps : List MemPlace} (hval : Value.okWide Try.prog w .any b 111 v) (h : DataW.Trod enc Try.prog w base spare held 111 v d ps) : ∃ l, SetsAt w v l := by
  obtain ⟨a, l, c, rfl⟩ := okWide_slice Try.underlying111 hval
  obtain ⟨fuel, hf⟩ := h
  obtain ⟨A, c, l, hv, hl, hok, hs⟩ := arg_list Try.underlying111 cells24 (by decide) encZ (fun s => s < 2 ^ 256) encZ_length (fun fuel r y hy => set_at hy) hf
  exact ⟨l, A, c, hv, hl, hok, hs⟩
end
end Go.Proofs.Ytjebpngdinbckaa
end

section
/- Orders of inputs: great, may, Plain, Same. -/
namespace Go.Proofs.Ytjebpngdinbckaa
open Go.Dk
attribute [local irreducible] IntKind.wrap

theorem ent94 : enters Try.prog 94 = true := by kernel_rfl
theorem c94 (A B : Option Addr) (n m c d : Nat) (w : World) : Fun Try.prog 94 [.slice A n c, .slice B m d] w fun v w' => v = .bool (decide (20 < n ∨ 20 < m)) ∧ Same w w' := by
  refine fun_of_W (N := 13) Try.func94 ent94 rfl rfl rfl (by simp) ?_
  have H := Hp.start0 w
  refine cut_rule (γ := Unit) _ rfl (fun _ => []) (fun _ w' => Hp w (fun _ => False) w' [] []) ⟨(), trivial, H⟩ ?_
  clear H
  rintro ⟨⟩ u w0 H
  replace H : Hp _ _ _ _ _ := H
  by_cases h1 : (20 : Int) < n
  · rw [decide_eq_true (Or.inl (by omega))]
    refine len_sl Try.underlying111 ?_
    iterate 4 refine cond_yes (decide_eq_true (by assumption)) ?_
    exact ⟨rfl, H.keeps⟩
  by_cases h2 : (20 : Int) < m
  · rw [decide_eq_true (Or.inr (by omega))]
    refine len_sl Try.underlying111 ?_
    iterate 2 refine cond_no (decide_eq_false (by assumption)) ?_
    refine len_sl Try.underlying32 ?_
    iterate 2 refine cond_no (decide_eq_false (by assumption)) ?_
    refine ⟨congrArg Value.bool ?_, H.keeps⟩
    exact decide_eq_true (by omega)
  rw [decide_eq_false (by omega)]
  refine len_sl Try.underlying111 ?_
  iterate 2 refine cond_no (decide_eq_false (by assumption)) ?_
  refine len_sl Try.underlying32 ?_
  iterate 2 refine cond_no (decide_eq_false (by assumption)) ?_
  refine ⟨congrArg Value.bool ?_, H.keeps⟩
  exact decide_eq_false (by omega)
theorem agg111 : aggT Try.prog 111 = some false := by kernel_rfl
/-- May sets be asked for in an order? -/
def MayS (l : List Nat) (ks : List Int) : Prop := l.length ≤ 4 ∧ OrdI ks ∧ ∀ s ∈ l, lessN s (allN ks.length) = 0
instance (l : List Nat) (ks : List Int) : Decidable (MayS l ks) := inferInstanceAs (Decidable (_ ∧ _ ∧ _))
theorem ent98 : enters Try.prog 98 = true := by kernel_rfl
theorem c98 (l : List Nat) (ks : List Int) (A B : Option Addr) (c d : Nat) (w : World) (hl : l.length ≤ 9223372036854775807) (hz : ∀ s ∈ l, s < 2 ^ 256) (hk : ks.length ≤ 9223372036854775807)
    (hA : Sl w (.slice A l.length c) 4 l.length (flat encZ l)) (hB : Sl w (.slice B ks.length d) 1 ks.length (intsI ks)) :
    Fun Try.prog 98 [.slice A l.length c, .slice B ks.length d] w fun v w' => v = .bool (decide (MayS l ks)) ∧ Same w w' := by
  refine fun_of_W (N := 28) Try.func98 ent98 rfl rfl rfl (by simp) ?_
  have H := Hp.start0 w
  refine cut_rule (γ := Unit) _ rfl (fun _ => []) (fun _ w' => Hp w (fun _ => False) w' [] []) ⟨(), trivial, H⟩ ?_
  clear H
  rintro ⟨⟩ u w0 H
  replace H : Hp _ _ _ _ _ := H
  refine cut_rule (γ := Unit) _ rfl (fun _ => []) (fun _ w' => (l.length ≤ 4 ∧ OrdI ks) ∧ Hp w (fun _ => False) w' [] []) ?_ ?_
  · by_cases h1 : (4 : Int) < l.length
    · rw [decide_eq_false (fun h : MayS l ks => by have := h.1; omega)]
      refine len_sl Try.underlying111 ?_
      iterate 4 refine cond_yes (decide_eq_true (by assumption)) ?_
      refine cond_yes rfl ?_
      exact ⟨rfl, H.keeps⟩
    have hc := fun w1 hs => c101 ks B d w1 hk hs
    by_cases h2 : OrdI ks
    · rw [(ordB_iff ks).2 h2] at hc
      refine len_sl Try.underlying111 ?_
      iterate 2 refine cond_no (decide_eq_false (by assumption)) ?_
      refine call_fn (hc _ (hB.same H.keeps)) ?_
      rintro _ w6 ⟨rfl, hk⟩
      replace H := H.same hk
      clear hk
      iterate 2 refine cond_no (decide_eq_false (by assumption)) ?_
      refine cond_no rfl ?_
      exact ⟨(), trivial, ⟨by omega, h2⟩, H⟩
    · have hb : orderB ks = false := by rw [Bool.eq_false_iff]; exact fun h => h2 ((ordB_iff ks).1 h)
      rw [hb] at hc
      rw [decide_eq_false (fun h : MayS l ks => h2 h.2.1)]
      refine len_sl Try.underlying111 ?_
      iterate 2 refine cond_no (decide_eq_false (by assumption)) ?_
      refine call_fn (hc _ (hB.same H.keeps)) ?_
      rintro _ w6 ⟨rfl, hk⟩
      replace H := H.same hk
      clear hk
      iterate 2 refine cond_no (decide_eq_false (by assumption)) ?_
      refine cond_yes rfl ?_
      exact ⟨rfl, H.keeps⟩
  clear H
  rintro ⟨⟩ u w1 ⟨⟨h4, hord⟩, H⟩
  replace H : Hp _ _ _ _ _ := H
  refine cut_rule (γ := Unit) _ rfl (fun _ => []) (fun _ w' => (∀ s ∈ l, lessN s (allN ks.length) = 0) ∧ Hp w (fun _ => False) w' [] []) ?_ ?_
  · refine loop_rule (γ := Nat) _ rfl (fun i => [(5, .int .i64 (i : Int))]) (fun i w' => (i ≤ l.length ∧ ∀ s ∈ l.take i, lessN s (allN ks.length) = 0) ∧ Hp w (fun _ => False) w' [] []) (fun i => l.length - i) 0 ⟨rfl, trivial⟩ ⟨⟨Nat.zero_le _, by simp⟩, H⟩ ?_
    clear H
    rintro i u w2 ⟨⟨hi, hall⟩, H⟩
    replace H : Hp _ _ _ _ _ := H
    refine len_sl Try.underlying111 ?_
    refine cond_dec (fun h7 => ?_) (fun h7 => ?_)
    · obtain ⟨s, hs⟩ : ∃ s, l[i]? = some s := ⟨_, List.getElem?_eq_getElem (by omega)⟩
      obtain ⟨g2, o2, rfl⟩ := hA.A (by omega)
      have htk : l.take (i + 1) = l.take i ++ [s] := by rw [List.take_add_one, hs]; rfl
      have hsm := List.mem_of_getElem? hs
      have hc := fun w1 => c109' s ks.length (hz s hsm) hord.le w1
      refine idxAddr_sl Try.underlying111 (s := 4) size24 i rfl (by omega) (o' := o2 + i * 4) (by omega) ?_
      refine Sl.loadAgg H hA encZ_length agg24 size24 i rfl hs ?_
      refine len_sl Try.underlying32 ?_
      by_cases hz0 : lessN s (allN ks.length) = 0
      · rw [show (lessN s (allN ks.length) == 0) = true by simpa using hz0] at hc
        refine call_fn (hc _) ?_
        rintro _ w3 ⟨rfl, hk⟩
        replace H := H.same hk
        clear hk
        refine cond_no rfl ?_
        refine ⟨i + 1, by show l.length - (i + 1) < l.length - i; omega, ⟨up (by omega), trivial⟩, ⟨by show i + 1 ≤ l.length; omega, fun s' hs' => ?_⟩, H⟩
        rw [htk] at hs'
        rcases List.mem_append.1 hs' with h | h
        · exact hall s' h
        · rw [List.mem_singleton] at h; subst h; exact hz0
      · rw [show (lessN s (allN ks.length) == 0) = false by simpa using hz0] at hc
        rw [decide_eq_false (fun h : MayS l ks => hz0 (h.2.2 s hsm))]
        refine call_fn (hc _) ?_
        rintro _ w3 ⟨rfl, hk⟩
        replace H := H.same hk
        clear hk
        refine cond_yes rfl ?_
        exact ⟨rfl, H.keeps⟩
    · rw [List.take_of_length_le (by omega)] at hall
      exact ⟨(), trivial, hall, H⟩
  clear H
  rintro ⟨⟩ u w2 ⟨hall, H⟩
  replace H : Hp _ _ _ _ _ := H
  rw [decide_eq_true (show MayS l ks from ⟨h4, hord, hall⟩)]
  exact ⟨rfl, H.keeps⟩
theorem ent102 : enters Try.prog 102 = true := by kernel_rfl
theorem c102 (a b : List Int) (A B : Option Addr) (c d : Nat) (w : World) (ha : a.length ≤ 1000000) (hb : b.length ≤ 1000000) (hA : Sl w (.slice A a.length c) 1 a.length (intsI a)) (hB : Sl w (.slice B b.length d) 1 b.length (intsI b)) :
    Fun Try.prog 102 [.slice A a.length c, .slice B b.length d] w fun v w' => v = .bool (decide (a = b)) ∧ Same w w' := by
  refine fun_of_W (N := 26) Try.func102 ent102 rfl rfl rfl (by simp) ?_
  have H := Hp.start0 w
  refine cut_rule (γ := Unit) _ rfl (fun _ => []) (fun _ w' => Hp w (fun _ => False) w' [] []) ⟨(), trivial, H⟩ ?_
  clear H
  rintro ⟨⟩ u w0 H
  replace H : Hp _ _ _ _ _ := H
  refine cut_rule (γ := Unit) _ rfl (fun _ => []) (fun _ w' => a.length = b.length ∧ Hp w (fun _ => False) w' [] []) ?_ ?_
  · refine len_sl Try.underlying32 ?_
    refine len_sl Try.underlying32 ?_
    refine cond_bne (fun hne => ?_) (fun he => ?_)
    · rw [decide_eq_false (fun h : a = b => hne (by rw [h]))]
      exact ⟨rfl, H.keeps⟩
    · exact ⟨(), trivial, by omega, H⟩
  clear H
  rintro ⟨⟩ u w1 ⟨hlen, H⟩
  replace H : Hp _ _ _ _ _ := H
  refine cut_rule (γ := Unit) _ rfl (fun _ => []) (fun _ w' => a = b ∧ Hp w (fun _ => False) w' [] []) ?_ ?_
  · refine loop_rule (γ := Nat) _ rfl (fun i => [(5, .int .i64 (i : Int))]) (fun i w' => (i ≤ a.length ∧ a.take i = b.take i) ∧ Hp w (fun _ => False) w' [] []) (fun i => a.length - i) 0 ⟨rfl, trivial⟩ ⟨⟨Nat.zero_le _, rfl⟩, H⟩ ?_
    clear H
    rintro i u w2 ⟨⟨hi, heq⟩, H⟩
    replace H : Hp _ _ _ _ _ := H
    refine len_sl Try.underlying32 ?_
    refine cond_dec (fun h7 => ?_) (fun h7 => ?_)
    · obtain ⟨x, hx⟩ : ∃ x, a[i]? = some x := ⟨_, List.getElem?_eq_getElem (by omega)⟩
      obtain ⟨y, hy⟩ : ∃ y, b[i]? = some y := ⟨_, List.getElem?_eq_getElem (by omega)⟩
      obtain ⟨g2, o2, rfl⟩ := hA.A (by omega)
      obtain ⟨g3, o3, rfl⟩ := hB.A (by omega)
      have hgx : (intsI a)[i]? = some (.int .i64 x) := by rw [intsI, List.getElem?_map, hx]; rfl
      have hgy : (intsI b)[i]? = some (.int .i64 y) := by rw [intsI, List.getElem?_map, hy]; rfl
      refine H.draw fol (by kernel_rfl) ?_
      clear H
      intro w3 H
      refine quiet _ (fun w H => idxAddr_sl Try.underlying32 (s := 1) size3 i rfl (by omega) (o' := o2 + i) (by omega) ⟨rfl, rfl⟩) ?_
      refine quiet _ (fun w H => H.loadSl (i := i) hA agg3 _ rfl hgx ⟨rfl, rfl⟩) ?_
      refine quiet _ (fun w H => idxAddr_sl Try.underlying32 (s := 1) size3 i rfl (by omega) (o' := o3 + i) (by omega) ⟨rfl, rfl⟩) ?_
      refine quiet _ (fun w H => H.loadSl (i := i) hB agg3 _ rfl hgy ⟨rfl, rfl⟩) ?_
      refine cond_bne (fun hne => ?_) (fun he => ?_)
      · rw [decide_eq_false (fun h : a = b => hne (by rw [h, hy] at hx; injection hx with hx; exact hx.symm))]
        exact ⟨rfl, H.keeps⟩
      · exact ⟨i + 1, by show a.length - (i + 1) < a.length - i; omega, ⟨up (by omega), trivial⟩, ⟨by show i + 1 ≤ a.length; omega, by rw [List.take_add_one, List.take_add_one, hx, hy, heq, he]⟩, H⟩
    · rw [List.take_of_length_le (by omega), List.take_of_length_le (by omega)] at heq
      exact ⟨(), trivial, heq, H⟩
  clear H
  rintro ⟨⟩ u w2 ⟨heq, H⟩
  replace H : Hp _ _ _ _ _ := H
  rw [decide_eq_true heq]
  exact ⟨rfl, H.keeps⟩
theorem ent96 : enters Try.prog 96 = true := by kernel_rfl
def iotaC (i k : Nat) : List Value := (List.range k).map fun j : Nat => .int .i64 (if j < i then (j : Int) else 0)
theorem iotaC_zero (k : Nat) : iotaC 0 k = List.replicate k (.int .i64 0) := by
  unfold iotaC
  refine List.eq_replicate_iff.2 ⟨by simp, fun v hv => ?_⟩
  obtain ⟨j, _, rfl⟩ := List.mem_map.1 hv
  rw [if_neg (by omega)]
theorem iotaC_full (k : Nat) : iotaC k k = intsI (iotaI k) := by
  unfold iotaC intsI iotaI
  rw [List.map_map]
  refine List.map_congr_left fun j hj => ?_
  rw [if_pos (List.mem_range.1 hj)]; rfl
theorem iotaC_step (i k : Nat) : (iotaC i k).set i (.int .i64 (i : Int)) = iotaC (i + 1) k := by
  refine List.ext_getElem? fun j => ?_
  unfold iotaC
  rw [List.getElem?_set, List.getElem?_map, List.getElem?_map, List.length_map, List.length_range]
  by_cases hj : j < k
  · rw [List.getElem?_range hj]
    by_cases h : i = j
    · subst h; simp [hj]
    · rw [if_neg h]
      simp only [Option.map_some]
      congr 2
      by_cases h2 : j < i
      · rw [if_pos h2, if_pos (by omega)]
      · rw [if_neg h2, if_neg (by omega)]
  · rw [List.getElem?_eq_none (by simpa using hj)]
    simp; omega
theorem madeInt (n : Nat) : (madeCells (Value.int .i64 0).cells (n * 1)).toList = List.replicate n (.int .i64 0) := by
  rw [Nat.mul_one]; exact toList_madeCells_one _ _
theorem c96 (n : Int) (w : World) : Fun Try.prog 96 [.int .i64 n] w fun v w' => ((n < 0 ∨ 8 < n) ∧ v = .slice none 0 0 ∧ Same w w') ∨ (∃ k : Nat, n = k ∧ k ≤ 8 ∧ ∃ g, v = .slice (some ⟨g, 0, none⟩) k k ∧ NewR w w' (own 3 1 (.slice (some ⟨g, 0, none⟩) k k) k (intsI (iotaI k)))) := by
  refine fun_of_W (N := 23) Try.func96 ent96 rfl rfl rfl (by simp) ?_
  have H := Hp.start0 w
  refine cut_rule (γ := Unit) _ rfl (fun _ => []) (fun _ w' => Hp w (fun _ => False) w' [] []) ⟨(), trivial, H⟩ ?_
  clear H
  rintro ⟨⟩ u w0 H
  replace H : Hp _ _ _ _ _ := H
  by_cases h0 : n < 0
  · iterate 3 refine cond_yes (decide_eq_true (by assumption)) ?_
    refine cond_yes rfl ?_
    exact .inl ⟨.inl h0, rfl, H.keeps⟩
  by_cases h8 : 8 < n
  · iterate 3 refine cond_no (decide_eq_false (by assumption)) ?_
    refine cond_yes (decide_eq_true (by assumption)) ?_
    exact .inl ⟨.inr h8, rfl, H.keeps⟩
  obtain ⟨k, rfl⟩ : ∃ k : Nat, n = k := ⟨n.toNat, by omega⟩
  refine cut_rule (γ := Unit) _ rfl (fun _ => []) (fun _ w' => Hp w (fun _ => False) w' [] []) ?_ ?_
  · iterate 3 refine cond_no rfl ?_
    refine cond_no (decide_eq_false (by assumption)) ?_
    exact ⟨(), trivial, H⟩
  clear H
  rintro ⟨⟩ u w1 H
  replace H : Hp _ _ _ _ _ := H
  refine cut_rule (γ := Nat) _ rfl (fun g => [(3, .slice (some ⟨g, 0, none⟩) k k)]) (fun g w' => Hp w (fun _ => False) w' [own 3 1 (.slice (some ⟨g, 0, none⟩) k k) k (iotaC 0 k)] []) ?_ ?_
  · refine H.make T32 k rfl rfl (by omega) (by omega) ?_
    clear H
    intro g w2 H
    rw [madeInt, ← iotaC_zero] at H
    exact ⟨g, ⟨rfl, trivial⟩, H⟩
  clear H
  rintro g u w2 H
  replace H : Hp _ _ _ _ _ := H
  refine cut_rule (γ := Unit) _ rfl (fun _ => []) (fun _ w' => Hp w (fun _ => False) w' [own 3 1 (.slice (some ⟨g, 0, none⟩) k k) k (iotaC k k)] []) ?_ ?_
  · refine loop_rule (γ := Nat) _ rfl (fun i => [(14, .int .i64 (i : Int))]) (fun i w' => i ≤ k ∧ Hp w (fun _ => False) w' [own 3 1 (.slice (some ⟨g, 0, none⟩) k k) k (iotaC i k)] []) (fun i => k - i) 0 ⟨rfl, trivial⟩ ⟨Nat.zero_le _, H⟩ ?_
    clear H
    rintro i u w3 ⟨hi, H⟩
    replace H : Hp _ _ _ _ _ := H
    refine cond_dec (fun h7 => ?_) (fun h7 => ?_)
    · refine cut_rule (γ := Unit) _ rfl (fun _ => []) (fun _ w' => Hp w (fun _ => False) w' [own 3 1 (.slice (some ⟨g, 0, none⟩) k k) k (iotaC (i + 1) k)] []) ?_ ?_
      · refine idxAddr_sl Try.underlying32 (s := 1) size3 i rfl (by omega) (o' := i) (by omega) ?_
        refine H.storeOwn 0 rfl size3 (by unfold iotaC; rw [List.length_map, List.length_range]; omega) rfl ?_
        clear H
        intro w4 H
        rw [iotaC_step] at H
        exact ⟨(), trivial, H⟩
      · clear H
        rintro ⟨⟩ u w4 H
        exact ⟨i + 1, by show k - (i + 1) < k - i; omega, ⟨up (by omega), trivial⟩, by show i + 1 ≤ k; omega, H⟩
    · obtain rfl : i = k := by omega
      exact ⟨(), trivial, H⟩
  clear H
  rintro ⟨⟩ u w3 H
  replace H : Hp _ _ _ _ _ := H
  rw [iotaC_full] at H
  exact .inr ⟨k, rfl, by omega, g, rfl, H.out⟩
end Go.Proofs.Ytjebpngdinbckaa
end

section
/- Orders of inputs: Size, the program's and the reference's. -/
namespace Go.Proofs.Ytjebpngdinbckaa
open Go.Dk
attribute [local irreducible] IntKind.wrap

def sumTo (l : List Nat) (o : List Nat) (i : Nat) : Nat := ((l.take i).map (sizeS o)).sum
theorem sumTo_succ {l : List Nat} {o : List Nat} {i s : Nat} (h : l[i]? = some s) : sumTo l o (i + 1) = sumTo l o i + sizeS o s := by
  unfold sumTo
  rw [List.take_add_one, h, List.map_append, List.sum_append]; simp
theorem sizeS_le {o : List Nat} (hn : o.length ≤ 8) (s : Nat) : sizeS o s ≤ 256 := Nat.le_trans (sizeTo_le o s _) (pow_le_256 hn)
theorem sumTo_le {l : List Nat} {o : List Nat} (hn : o.length ≤ 8) : ∀ i, sumTo l o i ≤ 256 * i
  | 0 => by simp [sumTo]
  | i + 1 => by
    have := sumTo_le (l := l) hn i
    cases h : l[i]? with
    | none => unfold sumTo at *; rw [List.take_add_one, h]; simp only [Option.toList_none, List.append_nil]; omega
    | some s => rw [sumTo_succ h]; have := sizeS_le hn s; omega
theorem sumTo_all (l : List Nat) (ks : List Int) : sumTo l (natsI ks) l.length = sizesS l ks := by unfold sumTo sizesS; rw [List.take_length]
theorem ent97 : enters Try.prog 97 = true := by kernel_rfl
theorem c97 (l : List Nat) (ks : List Int) (A B : Option Addr) (c d : Nat) (w : World) (hl : l.length ≤ 9223372036854775807) (hz : ∀ s ∈ l, s < 2 ^ 256) (hk : ks.length ≤ 9223372036854775807)
    (hA : Sl w (.slice A l.length c) 4 l.length (flat encZ l)) (hB : Sl w (.slice B ks.length d) 1 ks.length (intsI ks)) :
    Fun Try.prog 97 [.slice A l.length c, .slice B ks.length d] w fun v w' => v = (if MayS l ks then .tuple #[.int .i64 ((sizesS l ks : Nat) : Int), .int .i64 0] else .tuple #[.int .i64 0, .int .i64 1]) ∧ Same w w' := by
  refine fun_of_W (N := 46) Try.func97 ent97 rfl rfl rfl (by simp) ?_
  have H := Hp.start0 w
  refine cut_rule (γ := Unit) _ rfl (fun _ => []) (fun _ w' => Hp w (fun _ => False) w' [] []) ⟨(), trivial, H⟩ ?_
  clear H
  rintro ⟨⟩ u w0 H
  replace H : Hp _ _ _ _ _ := H
  refine cut_rule (γ := Unit) _ rfl (fun _ => []) (fun _ w' => l.length ≤ 4 ∧ Hp w (fun _ => False) w' [] []) ?_ ?_
  · refine len_sl Try.underlying111 ?_
    refine cond_dec (fun h1 => ?_) (fun h1 => ?_)
    · rw [if_neg (fun h : MayS l ks => by have := h.1; omega)]
      exact ⟨rfl, H.keeps⟩
    · exact ⟨(), trivial, by omega, H⟩
  clear H
  rintro ⟨⟩ u w1 ⟨h4, H⟩
  replace H : Hp _ _ _ _ _ := H
  refine cut_rule (γ := Option (Nat × Nat × Nat × Nat × Option Addr)) _ rfl (fun x => [(6, match x with | none => .pointer none | some (g, _) => .pointer (some ⟨g, 0, none⟩)), (7, .int .i64 (match x with | none => 1 | some _ => 0))])
    (fun x w' => match x with | none => ¬ OrdI ks ∧ Hp w (fun _ => False) w' [] [] | some (g, ga, q, co, B') => OrdI ks ∧ Hp w (fun _ => False) w' [arR ga q (.slice none 0 0) 20000 []] (bdM g ga co B' (natsI ks) ++ [])) ?_ ?_
  · refine call_fn (c113 ks B d 20000 _ hk (hB.same H.keeps)) ?_
    rintro _ w3 (⟨h, rfl, hk⟩ | ⟨hord, _, _, g, ga, q, co, B', rfl, hn⟩)
    · refine ⟨none, ⟨rfl, rfl, trivial⟩, ?_, H.same hk⟩
      rcases h with h | h | h
      · exact h
      · omega
      · omega
    · exact ⟨some (g, ga, q, co, B'), ⟨rfl, rfl, trivial⟩, hord, (H.addNew hn).bdOpen.takeN 1⟩
  clear H
  rintro (_ | ⟨g, ga, q, co, B'⟩) u w2 ⟨hord, H⟩
  · replace H : Hp _ _ _ _ _ := H
    rw [if_neg (fun h : MayS l ks => hord h.2.1)]
    refine cond_yes rfl ?_
    exact ⟨rfl, H.keeps⟩
  replace H : Hp _ _ _ _ _ := H
  have ho : OrdO (natsI ks) := hord.nats
  have ho8 : (natsI ks).length ≤ 8 := ho.le
  have hkl : (natsI ks).length = ks.length := natsI_length ks
  have hA0 : BInv (natsI ks).length [] := BInv.nil _
  have hok0 : ArOk 20000 [] := ok_start (by decide) (by decide)
  refine cut_rule (γ := Unit) _ rfl (fun _ => []) (fun _ w' => Hp w (fun _ => False) w' [arR ga q (.slice none 0 0) 20000 []] (bdM g ga co B' (natsI ks) ++ [])) ?_ ?_
  · refine cond_no rfl ?_
    exact ⟨(), trivial, H⟩
  clear H
  rintro ⟨⟩ u w3 H
  replace H : Hp _ _ _ _ _ := H
  refine cut_rule (γ := Unit) _ rfl (fun _ => [(8, .int .i64 0)]) (fun _ w' => Hp w (fun _ => False) w' [arR ga q (.slice none 0 0) 20000 []] (bdM g ga co B' (natsI ks) ++ [])) ⟨(), ⟨rfl, trivial⟩, H⟩ ?_
  clear H
  rintro ⟨⟩ u w4 H
  replace H : Hp _ _ _ _ _ := H
  refine cut_rule (γ := Unit) _ rfl (fun _ => [(8, .int .i64 ((sizesS l ks : Nat) : Int))]) (fun _ w' => (∀ s ∈ l, lessN s (allN ks.length) = 0) ∧ Hp w (fun _ => False) w' [] []) ?_ ?_
  · refine len_sl Try.underlying111 ?_
    refine loop_rule (γ := Nat × Value × Ar) _ rfl (fun (i, _) => [(26, .int .i64 (i : Int)), (8, .int .i64 ((sumTo l (natsI ks) i : Nat) : Int))])
      (fun (i, sv0, A0) w' => (i ≤ l.length ∧ ArOk 20000 A0 ∧ BInv (natsI ks).length A0 ∧ liveA A0 ≤ 255 * i ∧ ∀ s ∈ l.take i, lessN s (allN ks.length) = 0) ∧ Hp w (fun _ => False) w' [arR ga q sv0 20000 A0] (bdM g ga co B' (natsI ks) ++ [])) (fun (i, _) => l.length - i) (0, .slice none 0 0, []) ⟨rfl, rfl, trivial⟩ ⟨⟨Nat.zero_le _, hok0, hA0, by decide, by simp⟩, H⟩ ?_
    clear H
    rintro ⟨i, sv0, A0⟩ u w5 ⟨⟨hi, hok, hAi, hlive, hall⟩, H⟩
    replace H : Hp _ _ _ _ _ := H
    refine cond_dec (fun h7 => ?_) (fun h7 => ?_)
    · obtain ⟨s, hs⟩ : ∃ s, l[i]? = some s := ⟨_, List.getElem?_eq_getElem (by omega)⟩
      obtain ⟨g2, o2, rfl⟩ := hA.A (by omega)
      have htk : l.take (i + 1) = l.take i ++ [s] := by rw [List.take_add_one, hs]; rfl
      have hsm := List.mem_of_getElem? hs
      have hs2 := hz s hsm
      have hsuc := sumTo_succ (o := natsI ks) hs
      have hsl := sumTo_le (l := l) ho8 i
      have hsz := sizeS_le ho8 s
      refine cut_rule (γ := Value × Ar) _ rfl (fun _ => [(8, .int .i64 ((sumTo l (natsI ks) (i + 1) : Nat) : Int))]) (fun (sv1, A1) w' => (ArOk 20000 A1 ∧ BInv (natsI ks).length A1 ∧ liveA A1 ≤ 255 * (i + 1) ∧ lessN s (allN ks.length) = 0) ∧ Hp w (fun _ => False) w' [arR ga q sv1 20000 A1] (bdM g ga co B' (natsI ks) ++ [])) ?_ ?_
      · refine cut_rule (γ := Nat) _ rfl (fun g10 => [(10, .pointer (some ⟨g10, 0, none⟩))]) (fun g10 w' => Hp w (fun _ => False) w' [arR ga q sv0 20000 A0, blk g10 24 (sc s)] (bdM g ga co B' (natsI ks) ++ [])) ?_ ?_
        · refine idxAddr_sl Try.underlying111 (s := 4) size24 i rfl (by omega) (o' := o2 + i * 4) (by omega) ?_
          refine Sl.loadAgg H hA encZ_length agg24 size24 i rfl hs ?_
          refine H.alloc 24 (cs := sc 0) zero24 sc_zero ?_
          clear H
          intro g10 w6 H
          refine H.storeAll 0 rfl size24 rfl (fun v hv => sc_one s v hv) ?_
          clear H
          intro w7 H
          exact ⟨g10, ⟨rfl, trivial⟩, H.front 1 rfl⟩
        clear H
        rintro g10 u w6 H
        replace H : Hp _ _ _ _ _ := H
        refine cut_rule (γ := Int × Int × Value × Ar) _ rfl (fun (f, e, _) => [(11, .int .i64 f), (12, .int .i64 e)]) (fun (f, e, sv1, A1) w' => (ArOk 20000 A1 ∧ OfR (natsI ks) A1 s f e ∧ liveA A1 ≤ 255 * (i + 1) ∧ BInv (natsI ks).length A1) ∧ Hp w (fun _ => False) w' [arR ga q sv1 20000 A1, blk g10 24 (sc s)] (bdM g ga co B' (natsI ks) ++ [])) ?_ ?_
        · refine H.loadAll 1 rfl agg24 size24 ?_
          refine call_fn (c108 ho ho8 hs2 _ hAi hok H.bdAt') ?_
          rintro _ w7 ⟨A1, sv1, f, e, rfl, hm, hok1, ht⟩
          obtain ⟨hR, hl1, hx, hI⟩ := ofR ho (q := 255 * i) hlive (by omega) hAi hm
          exact ⟨(f, e, sv1, A1), ⟨rfl, rfl, trivial⟩, ⟨hok1, hR, by omega, hI⟩, H.turnBy 0 rfl ht⟩
        clear H
        rintro ⟨f, e, sv1, A1⟩ u w7 ⟨⟨hok1, hR, hlive1, hA1⟩, H⟩
        replace H : Hp _ _ _ _ _ := H
        refine cut_rule (γ := Unit) _ rfl (fun _ => []) (fun _ w' => e = 0 ∧ Hp w (fun _ => False) w' [arR ga q sv1 20000 A1, blk g10 24 (sc s)] (bdM g ga co B' (natsI ks) ++ [])) ?_ ?_
        · refine cond_bne (fun he => ?_) (fun he => ?_)
          · rcases hR with ⟨h1, _, rfl⟩ | ⟨_, h, _⟩
            · rw [hkl] at h1
              rw [if_neg (fun h : MayS l ks => h1 (h.2.2 s hsm))]
              exact ⟨rfl, H.keeps⟩
            · exact absurd h he
          · exact ⟨(), trivial, he, H⟩
        clear H
        rintro ⟨⟩ u w8 ⟨rfl, H⟩
        replace H : Hp _ _ _ _ _ := H
        rcases hR with ⟨_, _, h⟩ | ⟨hz1, _, hrep⟩
        · exact absurd h (by decide)
        · have hfl := id_lt hok1 hrep.there
          have hc1 := c111 (n := (natsI ks).length) (c := co) (B := B') (g := g) (ga := ga) (r := q) (sv0 := sv1) hok1 f (by omega) w8 (H.ro 0 rfl) (H.get 0 rfl)
          rw [reach_size ho hA1 hrep] at hc1
          refine call_fn hc1 ?_
          rintro _ w9 ⟨rfl, hk⟩
          replace H := H.same hk
          clear hk
          rw [hkl] at hz1
          exact ⟨(sv1, A1), ⟨congrArg (Value.int .i64) (by rw [wrap_i64_in (by omega) (by omega)]; omega), trivial⟩, ⟨hok1, hA1, hlive1, hz1⟩, H.takeN 1⟩
      · clear H
        rintro ⟨sv1, A1⟩ u w6 ⟨⟨hok1, hA1, hlive1, hz1⟩, H⟩
        refine ⟨(i + 1, sv1, A1), by show l.length - (i + 1) < l.length - i; omega, ⟨up (by omega), rfl, trivial⟩, ⟨by show i + 1 ≤ l.length; omega, hok1, hA1, hlive1, fun s' hs' => ?_⟩, H⟩
        rw [htk] at hs'
        rcases List.mem_append.1 hs' with h | h
        · exact hall s' h
        · rw [List.mem_singleton] at h; subst h; exact hz1
    · obtain rfl : i = l.length := by omega
      rw [List.take_length] at hall
      rw [← sumTo_all]
      exact ⟨(), ⟨rfl, trivial⟩, hall, (H.takeN 0).weakenRO (by simp)⟩
  clear H
  rintro ⟨⟩ u w5 ⟨hall, H⟩
  replace H : Hp _ _ _ _ _ := H
  rw [if_pos (show MayS l ks from ⟨h4, hord, hall⟩)]
  exact ⟨rfl, H.keeps⟩
theorem ent99 : enters Try.prog 99 = true := by kernel_rfl
theorem c99 (l : List Nat) (ks : List Int) (A B : Option Addr) (c d : Nat) (w : World) (hl : l.length ≤ 1000000) (hord : OrdI ks)
    (hA : Sl w (.slice A l.length c) 4 l.length (flat encZ l)) (hB : Sl w (.slice B ks.length d) 1 ks.length (intsI ks)) :
    Fun Try.prog 99 [.slice A l.length c, .slice B ks.length d] w fun v w' => v = .int .i64 ((sizesS l ks : Nat) : Int) ∧ Same w w' := by
  refine fun_of_W (N := 22) Try.func99 ent99 rfl rfl rfl (by simp) ?_
  have H := Hp.start0 w
  have ho : OrdO (natsI ks) := hord.nats
  have ho8 : (natsI ks).length ≤ 8 := ho.le
  have hkl : (natsI ks).length = ks.length := natsI_length ks
  have hS' := ord_sl hord hB
  refine cut_rule (γ := Unit) _ rfl (fun _ => []) (fun _ w' => Hp w (fun _ => False) w' [] []) ⟨(), trivial, H⟩ ?_
  clear H
  rintro ⟨⟩ u w0 H
  replace H : Hp _ _ _ _ _ := H
  refine cut_rule (γ := Unit) _ rfl (fun _ => [(5, .int .i64 0)]) (fun _ w' => Hp w (fun _ => False) w' [] []) ⟨(), ⟨rfl, trivial⟩, H⟩ ?_
  clear H
  rintro ⟨⟩ u w4 H
  replace H : Hp _ _ _ _ _ := H
  refine cut_rule (γ := Unit) _ rfl (fun _ => [(5, .int .i64 ((sizesS l ks : Nat) : Int))]) (fun _ w' => Hp w (fun _ => False) w' [] []) ?_ ?_
  · refine loop_rule (γ := Nat) _ rfl (fun i => [(6, .int .i64 (i : Int)), (5, .int .i64 ((sumTo l (natsI ks) i : Nat) : Int))]) (fun i w' => i ≤ l.length ∧ Hp w (fun _ => False) w' [] []) (fun i => l.length - i) 0 ⟨rfl, rfl, trivial⟩ ⟨Nat.zero_le _, H⟩ ?_
    clear H
    rintro i u w5 ⟨hi, H⟩
    replace H : Hp _ _ _ _ _ := H
    refine len_sl Try.underlying111 ?_
    refine cond_dec (fun h7 => ?_) (fun h7 => ?_)
    · obtain ⟨s, hs⟩ : ∃ s, l[i]? = some s := ⟨_, List.getElem?_eq_getElem (by omega)⟩
      obtain ⟨g2, o2, rfl⟩ := hA.A (by omega)
      have hsuc := sumTo_succ (o := natsI ks) hs
      have hsl := sumTo_le (l := l) ho8 i
      have hsz := sizeS_le ho8 s
      refine cut_rule (γ := Unit) _ rfl (fun _ => [(5, .int .i64 ((sumTo l (natsI ks) (i + 1) : Nat) : Int))]) (fun _ w' => Hp w (fun _ => False) w' [] []) ?_ ?_
      · have hc := fun w1 h => c112 ho s B d w1 h
        rw [hkl] at hc hS'
        refine idxAddr_sl Try.underlying111 (s := 4) size24 i rfl (by omega) (o' := o2 + i * 4) (by omega) ?_
        refine Sl.loadAgg H hA encZ_length agg24 size24 i rfl hs ?_
        refine call_fn (hc _ (hS'.same H.keeps)) ?_
        rintro _ w9 ⟨rfl, hk⟩
        replace H := H.same hk
        clear hk
        exact ⟨(), ⟨congrArg (Value.int .i64) (by rw [wrap_i64_in (by omega) (by omega)]; omega), trivial⟩, H⟩
      · clear H
        rintro ⟨⟩ u w6 H
        exact ⟨i + 1, by show l.length - (i + 1) < l.length - i; omega, ⟨up (by omega), rfl, trivial⟩, by show i + 1 ≤ l.length; omega, H⟩
    · obtain rfl : i = l.length := by omega
      rw [← sumTo_all]
      exact ⟨(), ⟨rfl, trivial⟩, H⟩
  clear H
  rintro ⟨⟩ u w5 H
  replace H : Hp _ _ _ _ _ := H
  exact ⟨rfl, H.keeps⟩
end Go.Proofs.Ytjebpngdinbckaa
end

section
/- Orders of inputs: Move, the program's and the reference's. -/
namespace Go.Proofs.Ytjebpngdinbckaa
open Go.Dk
attribute [local irreducible] IntKind.wrap

theorem rest_take {ks : List Int} {i : Nat} {y : Int} (x : Int) (h : ks[i]? = some y) : restI (ks.take (i + 1)) x = if y ≠ x then restI (ks.take i) x ++ [y] else restI (ks.take i) x := by
  rw [List.take_add_one, h, rest_append]
  by_cases hy : y = x
  · subst hy; simp [restI]
  · rw [if_pos hy]; simp [restI, hy]
theorem rest_le (l : List Int) (x : Int) : (restI l x).length ≤ l.length := List.length_filter_le _ _
theorem own_move {ks : List Int} {x : Int} {p : Nat} : intsI (moveI ks x p) = (intsI (restI ks x)).take (p * 1) ++ ([.int .i64 x] ++ (intsI (restI ks x)).drop (p * 1)) := by
  unfold moveI insAt intsI
  rw [Nat.mul_one, List.map_append, List.map_cons, List.map_take, List.map_drop]; rfl
theorem blkOwn1 {w0 w : World} {F : Nat → Prop} {L M : List Res} {g : Nat} {e : TypeId} {x : Value} (H : Hp w0 F w (blk g e #[x] :: L) M) : Hp w0 F w (own e 1 (.slice (some ⟨g, 0, none⟩) 1 1) 1 [x] :: L) M :=
  H.re (fun h => ⟨rfl, .inr ⟨g, 1, #[x], rfl, Nat.zero_le _, h, Nat.le_refl _, by decide, rfl, rfl⟩⟩) (fun y hy => by
    have hy : some g = some y := hy
    injection hy with hy
    exact hy.symm)
theorem ent100 : enters Try.prog 100 = true := by kernel_rfl
theorem c100 (ks : List Int) (B : Option Addr) (c : Nat) (x p : Int) (w : World) (hl : ks.length ≤ 9223372036854775807) (hs : Sl w (.slice B ks.length c) 1 ks.length (intsI ks)) :
    Fun Try.prog 100 [.slice B ks.length c, .int .i64 x, .int .i64 p] w fun v w' =>
      (¬ (OrdI ks ∧ (0 ≤ x ∧ x < ks.length) ∧ 0 ≤ p ∧ p < ks.length) ∧ v = .tuple #[.slice none 0 0, .int .i64 1] ∧ Same w w') ∨
      ((OrdI ks ∧ (0 ≤ x ∧ x < ks.length) ∧ 0 ≤ p ∧ p < ks.length) ∧ ∃ g d, v = .tuple #[.slice (some ⟨g, 0, none⟩) ks.length d, .int .i64 0] ∧ NewR w w' (own 3 1 (.slice (some ⟨g, 0, none⟩) ks.length d) ks.length (intsI (moveI ks x p.toNat)))) := by
  refine fun_of_W (N := 65) Try.func100 ent100 rfl rfl rfl (by simp) ?_
  have H := Hp.start0 w
  refine cut_rule (γ := Unit) _ rfl (fun _ => []) (fun _ w' => Hp w (fun _ => False) w' [] []) ⟨(), trivial, H⟩ ?_
  clear H
  rintro ⟨⟩ u w0 H
  replace H : Hp _ _ _ _ _ := H
  refine cut_rule (γ := Unit) _ rfl (fun _ => []) (fun _ w' => (OrdI ks ∧ (0 ≤ x ∧ x < ks.length) ∧ 0 ≤ p ∧ p < ks.length) ∧ Hp w (fun _ => False) w' [] []) ?_ ?_
  · refine call_fn (c113 ks B c 0 _ hl (hs.same H.keeps)) ?_
    rintro _ w3 (⟨h, rfl, hk⟩ | ⟨hord, _, _, g, ga, q, co, B', rfl, hn⟩)
    · have hno : ¬ OrdI ks := fun ho => by
        rcases h with h | h | h
        · exact absurd ho h
        · omega
        · omega
      replace H := H.same hk
      clear hk
      iterate 17 refine cond_yes rfl ?_
      exact .inl ⟨fun h => hno h.1, rfl, H.keeps⟩
    · replace H := (H.addNew hn).forget
      clear hn
      by_cases hx0 : x < 0
      · iterate 3 refine cond_no rfl ?_
        iterate 5 refine cond_yes (decide_eq_true (by assumption)) ?_
        iterate 9 refine cond_yes rfl ?_
        exact .inl ⟨fun h => by omega, rfl, H.keeps⟩
      by_cases hx1 : (ks.length : Int) ≤ x
      · iterate 3 refine cond_no rfl ?_
        iterate 3 refine cond_no (decide_eq_false (by assumption)) ?_
        refine len_sl Try.underlying32 ?_
        iterate 2 refine cond_no (decide_eq_false (by assumption)) ?_
        iterate 3 refine cond_yes (decide_eq_true (by assumption)) ?_
        iterate 6 refine cond_yes rfl ?_
        exact .inl ⟨fun h => by omega, rfl, H.keeps⟩
      by_cases hp0 : p < 0
      · iterate 3 refine cond_no rfl ?_
        iterate 3 refine cond_no (decide_eq_false (by assumption)) ?_
        refine len_sl Try.underlying32 ?_
        iterate 5 refine cond_no (decide_eq_false (by assumption)) ?_
        iterate 5 refine cond_yes (decide_eq_true (by assumption)) ?_
        refine cond_yes rfl ?_
        exact .inl ⟨fun h => by omega, rfl, H.keeps⟩
      by_cases hp1 : (ks.length : Int) ≤ p
      · iterate 3 refine cond_no rfl ?_
        iterate 3 refine cond_no (decide_eq_false (by assumption)) ?_
        refine len_sl Try.underlying32 ?_
        iterate 8 refine cond_no (decide_eq_false (by assumption)) ?_
        refine len_sl Try.underlying32 ?_
        iterate 2 refine cond_no (decide_eq_false (by assumption)) ?_
        refine cond_yes (decide_eq_true (by assumption)) ?_
        exact .inl ⟨fun h => by omega, rfl, H.keeps⟩
      iterate 3 refine cond_no rfl ?_
      iterate 3 refine cond_no (decide_eq_false (by assumption)) ?_
      refine len_sl Try.underlying32 ?_
      iterate 8 refine cond_no (decide_eq_false (by assumption)) ?_
      refine len_sl Try.underlying32 ?_
      iterate 3 refine cond_no (decide_eq_false (by assumption)) ?_
      exact ⟨(), trivial, ⟨hord, by omega, by omega⟩, H⟩
  clear H
  rintro ⟨⟩ u w2 ⟨⟨hord, hx, hp⟩, H⟩
  replace H : Hp _ _ _ _ _ := H
  obtain ⟨q, rfl⟩ : ∃ q : Nat, p = q := ⟨p.toNat, by omega⟩
  have h8 := hord.le
  have hrl := rest_len hord hx.1 hx.2
  refine cut_rule (γ := Unit) _ rfl (fun _ => [(10, .slice none 0 0)]) (fun _ w' => Hp w (fun _ => False) w' [] []) ⟨(), ⟨rfl, trivial⟩, H⟩ ?_
  clear H
  rintro ⟨⟩ u w3 H
  replace H : Hp _ _ _ _ _ := H
  have H2 := H.ownNil 3 1
  clear H
  refine cut_rule (γ := Option Addr × Nat) _ rfl (fun (C, d) => [(10, .slice C (restI ks x).length d)]) (fun (C, d) w' => Hp w (fun _ => False) w' [own 3 1 (.slice C (restI ks x).length d) (restI ks x).length (intsI (restI ks x))] []) ?_ ?_
  · refine len_sl Try.underlying32 ?_
    refine loop_rule (γ := Nat × Option Addr × Nat) _ rfl (fun (i, C, d) => [(42, .int .i64 (i : Int)), (10, .slice C (restI (ks.take i) x).length d)])
      (fun (i, C, d) w' => i ≤ ks.length ∧ Hp w (fun _ => False) w' [own 3 1 (.slice C (restI (ks.take i) x).length d) (restI (ks.take i) x).length (intsI (restI (ks.take i) x))] []) (fun (i, _) => ks.length - i) (0, none, 0) ⟨rfl, rfl, trivial⟩ ⟨Nat.zero_le _, H2⟩ ?_
    clear H2
    rintro ⟨i, C, d⟩ u w4 ⟨hi, H⟩
    replace H : Hp _ _ _ _ _ := H
    refine cond_dec (fun h7 => ?_) (fun h7 => ?_)
    · obtain ⟨y, hy⟩ : ∃ y, ks[i]? = some y := ⟨_, List.getElem?_eq_getElem (by omega)⟩
      obtain ⟨g2, o2, rfl⟩ := hs.A (by omega)
      have hgy : (intsI ks)[i]? = some (.int .i64 y) := by rw [intsI, List.getElem?_map, hy]; rfl
      have hrt := rest_take x hy
      have hle := rest_le (ks.take i) x
      rw [List.length_take] at hle
      refine cut_rule (γ := Option Addr × Nat) _ rfl (fun (C, d) => [(10, .slice C (restI (ks.take (i + 1)) x).length d)]) (fun (C, d) w' => Hp w (fun _ => False) w' [own 3 1 (.slice C (restI (ks.take (i + 1)) x).length d) (restI (ks.take (i + 1)) x).length (intsI (restI (ks.take (i + 1)) x))] []) ?_ ?_
      · refine cut_rule (γ := Unit) _ rfl (fun _ => [(12, .int .i64 y)]) (fun _ w' => Hp w (fun _ => False) w' [own 3 1 (.slice C (restI (ks.take i) x).length d) (restI (ks.take i) x).length (intsI (restI (ks.take i) x))] []) ?_ ?_
        · refine idxAddr_sl Try.underlying32 (s := 1) size3 i rfl (by omega) (o' := o2 + i) (by omega) ?_
          refine H.loadSl (i := i) hs agg3 _ rfl hgy ?_
          exact ⟨(), ⟨rfl, trivial⟩, H⟩
        clear H
        rintro ⟨⟩ u w5 H
        replace H : Hp _ _ _ _ _ := H
        refine cond_bne (fun hne => ?_) (fun he => ?_)
        · rw [if_pos hne] at hrt
          refine H.buildOne T32 rfl ?_
          clear H
          intro g11 w11 H
          refine H.appendOne 0 T32 rfl rfl (by omega) (by omega) ?_
          clear H
          intro B2 d2 w12 H
          have e1 : (restI (ks.take (i + 1)) x).length = (restI (ks.take i) x).length + 1 := by rw [hrt]; simp
          have e2 : intsI (restI (ks.take (i + 1)) x) = intsI (restI (ks.take i) x) ++ [.int .i64 y] := by rw [hrt]; simp [intsI]
          exact ⟨(B2, d2), ⟨by rw [e1]; rfl, trivial⟩, by rw [e1, e2]; exact H⟩
        · rw [if_neg (by omega)] at hrt
          exact ⟨(C, d), ⟨by rw [hrt]; rfl, trivial⟩, by rw [hrt]; exact H⟩
      · clear H
        rintro ⟨C, d⟩ u w5 H
        exact ⟨(i + 1, C, d), by show ks.length - (i + 1) < ks.length - i; omega, ⟨up (by omega), rfl, trivial⟩, by show i + 1 ≤ ks.length; omega, H⟩
    · rw [List.take_of_length_le (by omega)] at H
      exact ⟨(C, d), ⟨by show Value.slice C (restI (ks.take i) x).length d = _; rw [List.take_of_length_le (by omega)], trivial⟩, H⟩
  clear H2
  rintro ⟨C, d⟩ u w4 H
  replace H : Hp _ _ _ _ _ := H
  have hrs := own_Sl (H.get 0 rfl)
  obtain ⟨A1, e1, hA1, hS1⟩ := sliced_hm hrs (i := q) (by omega)
  obtain ⟨A2, c2, e2, hS2⟩ := sliced_l Try.underlying32 size3 hrs (i := q) (by omega)
  have hcx : (restI ks x).length ≤ d := by
    obtain ⟨Cx, cx, hCx, hcx⟩ := own_form (H.get 0 rfl)
    injection hCx with _ _ h2
    rw [h2]; exact hcx
  have v1 : ∀ w', (own 3 1 (.slice C (restI ks x).length d) (restI ks x).length (intsI (restI ks x))).ok w' → Sl w' (.slice A1 q q) 1 q ((intsI (restI ks x)).take (q * 1)) := fun w' h => by
    obtain ⟨A', e', _, hS⟩ := sliced_hm (own_Sl h) (i := q) (by omega)
    rw [e1] at e'
    injection e' with e' _ _
    rw [e']; exact hS
  have v2 : ∀ w', (own 3 1 (.slice C (restI ks x).length d) (restI ks x).length (intsI (restI ks x))).ok w' → Sl w' (.slice A2 ((restI ks x).length - q) c2) 1 ((restI ks x).length - q) ((intsI (restI ks x)).drop (q * 1)) := fun w' h => by
    obtain ⟨A', c', e', hS⟩ := sliced_l Try.underlying32 size3 (own_Sl h) (i := q) (by omega)
    rw [e2] at e'
    injection e' with e' _ e''
    rw [e', e'']; exact hS
  clear hS1 hS2 hrs
  refine H.draw fol (by kernel_rfl) ?_
  clear H
  intro w5 H
  refine quiet (.slice A1 q q) (fun w H => by rw [← e1]; exact slice_hm Try.underlying32 size3 rfl rfl (by omega) ⟨rfl, rfl⟩) ?_
  refine H.buildOne T32 rfl ?_
  intro g59 w6 H2
  replace H2 := blkOwn1 H2
  refine ⟨.inl H2.forget, ?_⟩
  refine quiet (.slice A2 ((restI ks x).length - q) c2) (fun w H => by rw [← e2]; exact slice_l Try.underlying32 size3 rfl (by omega) ⟨rfl, rfl⟩) ?_
  refine H2.appendSl 0 T32 rfl (v2 _ (H2.get 1 rfl)) (fun u hu => intsI_one _ u (List.mem_of_mem_drop hu)) (by omega) (by omega) ?_
  intro A3 d3 w7 H3
  refine ⟨.inl H3.forget, ?_⟩
  refine H3.appendNew T32 (v1 _ (H3.get 1 rfl)) (own_Sl (H3.get 0 rfl)) hA1 (by omega) (by omega) (by omega) ?_
  intro A4 d4 w8 H4
  refine ⟨.inl H4.forget.forget, ?_⟩
  have e3 : q + (1 + ((restI ks x).length - q)) = ks.length := by omega
  rw [e3] at H4 ⊢
  rw [show (intsI (restI ks x)).take (q * 1) ++ ([Value.int .i64 x] ++ (intsI (restI ks x)).drop (q * 1)) = intsI (moveI ks x q) from own_move.symm] at H4
  exact .inr ⟨⟨hord, hx, hp⟩, A4, d4, rfl, H4.out⟩
theorem ent103 : enters Try.prog 103 = true := by kernel_rfl
theorem c103 (ks : List Int) (B : Option Addr) (c : Nat) (x : Int) (p : Nat) (w : World) (hord : OrdI ks) (hx : 0 ≤ x ∧ x < ks.length) (hp : p < ks.length) (hs : Sl w (.slice B ks.length c) 1 ks.length (intsI ks)) :
    Fun Try.prog 103 [.slice B ks.length c, .int .i64 x, .int .i64 (p : Int)] w fun v w' => ∃ g d, v = .slice (some ⟨g, 0, none⟩) ks.length d ∧ NewR w w' (own 3 1 (.slice (some ⟨g, 0, none⟩) ks.length d) ks.length (intsI (moveI ks x p))) := by
  refine fun_of_W (N := 55) Try.func103 ent103 rfl rfl rfl (by simp) ?_
  have H := Hp.start0 w
  have h8 := hord.le
  have hrl := rest_len hord hx.1 hx.2
  obtain ⟨i, hi, hix⟩ := List.getElem_of_mem (hord.mem hx.1 hx.2)
  have hgi : ks[i]? = some x := by rw [List.getElem?_eq_getElem hi, hix]
  have hself := (ins_self hord.nodup hgi).1
  refine cut_rule (γ := Unit) _ rfl (fun _ => []) (fun _ w' => Hp w (fun _ => False) w' [] []) ⟨(), trivial, H⟩ ?_
  clear H
  rintro ⟨⟩ u w0 H
  replace H : Hp _ _ _ _ _ := H
  refine cut_rule (γ := Nat × Nat) _ rfl (fun (g, d) => [(7, .slice (some ⟨g, 0, none⟩) ks.length d)]) (fun (g, d) w' => Hp w (fun _ => False) w' [own 3 1 (.slice (some ⟨g, 0, none⟩) ks.length d) ks.length (intsI ks)] []) ?_ ?_
  · refine Hp.buildNil H T32 ?_
    clear H
    intro g1 w6 H
    refine Hp.appendCopy H 0 T32 rfl (hs.same H.keeps) (intsI_one ks) (by omega) (by omega) ?_
    clear H
    intro A2 d2 w7 H
    obtain ⟨g, rfl⟩ := own_base (H.get 0 rfl) (by omega)
    exact ⟨(g, d2), ⟨rfl, trivial⟩, H⟩
  clear H
  rintro ⟨g, d⟩ u w1 H
  replace H : Hp _ _ _ _ _ := H
  have hmg : ∀ j, j < ks.length → (moveI ks x j)[j]? = some x := fun j hj => move_get (by omega)
  have hml : ∀ j, (moveI ks x j).length = ks.length := fun j => move_len hord hx.1 hx.2 j
  refine cut_rule (γ := Unit) _ rfl (fun _ => [(8, .int .i64 0)]) (fun _ w' => Hp w (fun _ => False) w' [own 3 1 (.slice (some ⟨g, 0, none⟩) ks.length d) ks.length (intsI ks)] []) ⟨(), ⟨rfl, trivial⟩, H⟩ ?_
  clear H
  rintro ⟨⟩ u w2 H
  replace H : Hp _ _ _ _ _ := H
  refine cut_rule (γ := Unit) _ rfl (fun _ => [(8, .int .i64 (i : Int))]) (fun _ w' => Hp w (fun _ => False) w' [own 3 1 (.slice (some ⟨g, 0, none⟩) ks.length d) ks.length (intsI (moveI ks x i))] []) ?_ ?_
  · rw [hself]
    refine loop_rule (γ := Nat) _ rfl (fun j => [(8, .int .i64 (j : Int))]) (fun j w' => j ≤ i ∧ Hp w (fun _ => False) w' [own 3 1 (.slice (some ⟨g, 0, none⟩) ks.length d) ks.length (intsI ks)] []) (fun j => ks.length - j) 0 ⟨rfl, trivial⟩ ⟨Nat.zero_le _, H⟩ ?_
    clear H
    rintro j u w3 ⟨hj, H⟩
    replace H : Hp _ _ _ _ _ := H
    obtain ⟨y, hy⟩ : ∃ y, ks[j]? = some y := ⟨_, List.getElem?_eq_getElem (by omega)⟩
    have hgy : (intsI ks)[j]? = some (.int .i64 y) := by rw [intsI, List.getElem?_map, hy]; rfl
    refine idxAddr_sl Try.underlying32 (s := 1) size3 j rfl (by omega) (o' := j) (by omega) ?_
    refine H.loadOwn 0 rfl agg3 hgy ?_
    refine cond_bne (fun hne => ?_) (fun he => ?_)
    · have : j ≠ i := fun h => by subst h; rw [hgi] at hy; injection hy with hy; exact hne hy.symm
      exact ⟨j + 1, by show ks.length - (j + 1) < ks.length - j; omega, ⟨up (by omega), trivial⟩, by show j + 1 ≤ i; omega, H⟩
    · have : j = i := by
        rw [he] at hy
        exact (List.getElem_inj hord.nodup (h₀ := by omega) (h₁ := hi)).1 (by rw [hix]; have := List.getElem?_eq_getElem (l := ks) (i := j) (by omega); rw [hy] at this; injection this with this; exact this.symm)
      subst this
      exact ⟨(), ⟨rfl, trivial⟩, H⟩
  clear H
  rintro ⟨⟩ u w3 H
  replace H : Hp _ _ _ _ _ := H
  refine cut_rule (γ := Nat) _ rfl (fun j => [(8, .int .i64 (j : Int))]) (fun j w' => (p ≤ j ∧ j < ks.length) ∧ Hp w (fun _ => False) w' [own 3 1 (.slice (some ⟨g, 0, none⟩) ks.length d) ks.length (intsI (moveI ks x j))] []) ?_ ?_
  · refine loop_rule (γ := Nat) _ rfl (fun j => [(8, .int .i64 (j : Int))]) (fun j w' => j < ks.length ∧ Hp w (fun _ => False) w' [own 3 1 (.slice (some ⟨g, 0, none⟩) ks.length d) ks.length (intsI (moveI ks x j))] []) (fun j => ks.length - j) i ⟨rfl, trivial⟩ ⟨hi, H⟩ ?_
    clear H
    rintro j u w4 ⟨hj, H⟩
    replace H : Hp _ _ _ _ _ := H
    refine cond_dec (fun h7 => ?_) (fun h7 => ?_)
    · have hjr : j < (restI ks x).length := by omega
      obtain ⟨hg1, hst⟩ := ins_up (x := x) hjr
      have hw1 : IntKind.i64.wrap ((j : Int) + 1) = ((j + 1 : Nat) : Int) := by rw [wrap_i64_in (by omega) (by omega)]; omega
      have hgy : (intsI (moveI ks x j))[j + 1]? = some (.int .i64 (restI ks x)[j]) := by rw [intsI, List.getElem?_map]; unfold moveI; rw [hg1]; rfl
      have hl := hml j
      have e : ((intsI (moveI ks x j)).set j (.int .i64 (restI ks x)[j])).set (j + 1) (.int .i64 x) = intsI (moveI ks x (j + 1)) := by
        unfold moveI at *
        rw [← hst]
        unfold intsI
        rw [List.map_set, List.map_set]
      refine idxAddr_sl Try.underlying32 (s := 1) size3 (j + 1) hw1 (by omega) (o' := j + 1) (by omega) ?_
      refine H.loadOwn 0 rfl agg3 hgy ?_
      refine idxAddr_sl Try.underlying32 (s := 1) size3 j rfl (by omega) (o' := j) (by omega) ?_
      refine H.storeOwn 0 rfl size3 (by rw [intsI_length]; omega) rfl ?_
      clear H
      intro w5 H
      refine idxAddr_sl Try.underlying32 (s := 1) size3 (j + 1) hw1 (by omega) (o' := j + 1) (by omega) ?_
      refine H.storeOwn 0 rfl size3 (by rw [List.length_set, intsI_length]; omega) rfl ?_
      clear H
      intro w6 H
      refine ⟨j + 1, by show ks.length - (j + 1) < ks.length - j; omega, ⟨up (by omega), trivial⟩, by show j + 1 < ks.length; omega, ?_⟩
      show Hp w (fun _ => False) w6 [own 3 1 (.slice (some ⟨g, 0, none⟩) ks.length d) ks.length (intsI (moveI ks x (j + 1)))] []
      rw [← e]
      exact H
    · exact ⟨j, ⟨rfl, trivial⟩, ⟨by omega, hj⟩, H⟩
  clear H
  rintro j0 u w4 ⟨⟨hpj, hj0⟩, H⟩
  replace H : Hp _ _ _ _ _ := H
  refine cut_rule (γ := Unit) _ rfl (fun _ => [(8, .int .i64 (p : Int))]) (fun _ w' => Hp w (fun _ => False) w' [own 3 1 (.slice (some ⟨g, 0, none⟩) ks.length d) ks.length (intsI (moveI ks x p))] []) ?_ ?_
  · refine loop_rule (γ := Nat) _ rfl (fun j => [(8, .int .i64 (j : Int))]) (fun j w' => (p ≤ j ∧ j < ks.length) ∧ Hp w (fun _ => False) w' [own 3 1 (.slice (some ⟨g, 0, none⟩) ks.length d) ks.length (intsI (moveI ks x j))] []) (fun j => j) j0 ⟨rfl, trivial⟩ ⟨⟨hpj, hj0⟩, H⟩ ?_
    clear H
    rintro j u w5 ⟨⟨hpj, hj⟩, H⟩
    replace H : Hp _ _ _ _ _ := H
    refine cond_dec (fun h7 => ?_) (fun h7 => ?_)
    · obtain ⟨q, rfl⟩ : ∃ q, j = q + 1 := ⟨j - 1, by omega⟩
      have hjr : q < (restI ks x).length := by omega
      obtain ⟨hg1, hst⟩ := ins_down (x := x) hjr
      have hw1 : IntKind.i64.wrap (((q + 1 : Nat) : Int) - 1) = (q : Int) := by rw [wrap_i64_in (by omega) (by omega)]; omega
      have hgy : (intsI (moveI ks x (q + 1)))[q]? = some (.int .i64 (restI ks x)[q]) := by rw [intsI, List.getElem?_map]; unfold moveI; rw [hg1]; rfl
      have hl := hml (q + 1)
      have e : ((intsI (moveI ks x (q + 1))).set (q + 1) (.int .i64 (restI ks x)[q])).set q (.int .i64 x) = intsI (moveI ks x q) := by
        unfold moveI at *
        rw [← hst]
        unfold intsI
        rw [List.map_set, List.map_set]
      refine idxAddr_sl Try.underlying32 (s := 1) size3 q hw1 (by omega) (o' := q) (by omega) ?_
      refine H.loadOwn 0 rfl agg3 hgy ?_
      refine idxAddr_sl Try.underlying32 (s := 1) size3 (q + 1) rfl (by omega) (o' := q + 1) (by omega) ?_
      refine H.storeOwn 0 rfl size3 (by rw [intsI_length]; omega) rfl ?_
      clear H
      intro w6 H
      refine idxAddr_sl Try.underlying32 (s := 1) size3 q hw1 (by omega) (o' := q) (by omega) ?_
      refine H.storeOwn 0 rfl size3 (by rw [List.length_set, intsI_length]; omega) rfl ?_
      clear H
      intro w7 H
      refine ⟨q, by show q < q + 1; omega, ⟨congrArg (Value.int .i64) hw1, trivial⟩, ⟨by show p ≤ q; omega, by show q < ks.length; omega⟩, ?_⟩
      show Hp w (fun _ => False) w7 [own 3 1 (.slice (some ⟨g, 0, none⟩) ks.length d) ks.length (intsI (moveI ks x q))] []
      rw [← e]
      exact H
    · obtain rfl : j = p := by omega
      exact ⟨(), ⟨rfl, trivial⟩, H⟩
  clear H
  rintro ⟨⟩ u w5 H
  replace H : Hp _ _ _ _ _ := H
  exact ⟨g, d, rfl, H.out⟩
end Go.Proofs.Ytjebpngdinbckaa
end

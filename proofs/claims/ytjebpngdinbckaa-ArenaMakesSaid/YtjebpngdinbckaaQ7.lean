import Derived.Test.YtjebpngdinbckaaQ6
/- The statements of chapter 2: CubeSets. -/
namespace Go.Dk
/-- The same parts in another world. -/
abbrev Hp.cl {w0 w : World} {F : Nat → Prop} {L M : List Res} (_ : Hp w0 F w L M) (w' : World) : Prop := Hp w0 F w' L M
end Go.Dk
namespace Go.Proofs.Ytjebpngdinbckaa
open Go.Dk
attribute [local irreducible] IntKind.wrap

theorem dbl {a i : Nat} (hi : a ≤ i) (h8 : i ≤ 8) : Value.int .i64 (IntKind.i64.wrap (2 * ((2 ^ (i - a) : Nat) : Int))) = Value.int .i64 ((2 ^ (i + 1 - a) : Nat) : Int) := by
  have h2 : 2 ^ (i - a) ≤ 2 ^ 8 := Nat.pow_le_pow_right (by decide) (by omega)
  rw [show i + 1 - a = (i - a) + 1 by omega, Nat.pow_succ]
  generalize 2 ^ (i - a) = p at h2 ⊢
  rw [wrap_i64_in (by omega) (by omega)]
  congr 1; omega
theorem ent12 : enters Try.prog 12 = true := by kernel_rfl
theorem law12_f (m v x y c s : Nat) (hm : m < 256) (hv : v < 256) (hx : x < 256) (hy : y < 256) (hc : c < 256) (hs : s < 256) (n : Int) (w : World) (h : rightN m v n = false ∨ rightN x y n = false ∨ rightN c s n = false) :
    Fun Try.prog 12 [cv m v, cv x y, cv c s, .int .i64 n] w fun v w' => v = .bool true ∧ Same w w' := by
  refine fun_of_W (N := 130) Try.func12 ent12 rfl rfl rfl (by simp) ?_
  have H := Hp.start0 w
  cases h1 : rightN m v n with
  | false => refine H.box 46 (cv _ _) (cs := cc _ _) rfl ?_
             clear H
             intro g2 w2 H
             refine H.box 46 (cv _ _) (cs := cc _ _) rfl ?_
             clear H
             intro g3 w3 H
             refine H.box 46 (cv _ _) (cs := cc _ _) rfl ?_
             clear H
             intro g4 w4 H
             refine H.loadAll 2 rfl agg46 size46 ?_
             refine call_fn (c57 _ _ (by assumption) (by assumption) _ _) ?_
             rintro _ w6 ⟨rfl, hk⟩
             replace H := H.same hk
             clear hk
             rw [h1]
             iterate 11 refine cond_yes rfl ?_
             refine call_fn (c59 _) ?_
             rintro _ w19 ⟨rfl, hk⟩
             replace H := H.same hk
             clear hk
             exact ⟨rfl, H.keeps⟩
  | true =>
    cases h2 : rightN x y n with
    | false => refine H.box 46 (cv _ _) (cs := cc _ _) rfl ?_
               clear H
               intro g3 w3 H
               refine H.box 46 (cv _ _) (cs := cc _ _) rfl ?_
               clear H
               intro g4 w4 H
               refine H.box 46 (cv _ _) (cs := cc _ _) rfl ?_
               clear H
               intro g5 w5 H
               refine H.loadAll 2 rfl agg46 size46 ?_
               refine call_fn (c57 _ _ (by assumption) (by assumption) _ _) ?_
               rintro _ w7 ⟨rfl, hk⟩
               replace H := H.same hk
               clear hk
               rw [h1]
               refine cond_no rfl ?_
               refine H.loadAll 1 rfl agg46 size46 ?_
               iterate 2 refine cond_no rfl ?_
               refine call_fn (c57 _ _ (by assumption) (by assumption) _ _) ?_
               rintro _ w13 ⟨rfl, hk⟩
               replace H := H.same hk
               clear hk
               rw [h2]
               iterate 2 refine cond_no rfl ?_
               iterate 6 refine cond_yes rfl ?_
               refine call_fn (c59 _) ?_
               rintro _ w23 ⟨rfl, hk⟩
               replace H := H.same hk
               clear hk
               exact ⟨rfl, H.keeps⟩
    | true =>
      have h3 : rightN c s n = false := by simpa [h1, h2] using h
      refine H.box 46 (cv _ _) (cs := cc _ _) rfl ?_
      clear H
      intro g4 w4 H
      refine H.box 46 (cv _ _) (cs := cc _ _) rfl ?_
      clear H
      intro g5 w5 H
      refine H.box 46 (cv _ _) (cs := cc _ _) rfl ?_
      clear H
      intro g6 w6 H
      refine H.loadAll 2 rfl agg46 size46 ?_
      refine call_fn (c57 _ _ (by assumption) (by assumption) _ _) ?_
      rintro _ w8 ⟨rfl, hk⟩
      replace H := H.same hk
      clear hk
      rw [h1]
      refine cond_no rfl ?_
      refine H.loadAll 1 rfl agg46 size46 ?_
      iterate 2 refine cond_no rfl ?_
      refine call_fn (c57 _ _ (by assumption) (by assumption) _ _) ?_
      rintro _ w14 ⟨rfl, hk⟩
      replace H := H.same hk
      clear hk
      rw [h2]
      iterate 3 refine cond_no rfl ?_
      refine H.loadAll 0 rfl agg46 size46 ?_
      iterate 2 refine cond_no rfl ?_
      refine call_fn (c57 _ _ (by assumption) (by assumption) _ _) ?_
      rintro _ w22 ⟨rfl, hk⟩
      replace H := H.same hk
      clear hk
      rw [h3]
      iterate 2 refine cond_no rfl ?_
      refine cond_yes rfl ?_
      refine call_fn (c59 _) ?_
      rintro _ w27 ⟨rfl, hk⟩
      replace H := H.same hk
      clear hk
      exact ⟨rfl, H.keeps⟩
theorem law12_0 (m v x y c s : Nat) (hm : m < 256) (hv : v < 256) (hx : x < 256) (hy : y < 256) (hc : c < 256) (hs : s < 256) (k : Nat) (hk8 : k ≤ 8) (w : World)
    (h1 : rightN m v (k : Int) = true) (h2 : rightN x y (k : Int) = true) (h3 : rightN c s (k : Int) = true) (hmt : meetB m v x y = false) (hpk : popc m ≤ k) (hpts : cubeP m v k &&& cubeP x y k = 0)
    (hcnt : popc (cubeP m v k) = 2 ^ (k - popc m)) (hhp : holdsB m v x y = (lessN (cubeP x y k) (cubeP m v k) == 0)) (hzr : rightN 0 0 (k : Int) = true) :
    Fun Try.prog 12 [cv m v, cv x y, cv c s, .int .i64 (k : Int)] w fun v w' => v = .bool true ∧ Same w w' := by
  obtain ⟨hj1, hj2⟩ := join_holds hm hv hx hy
  have hjl := join_least (c := c) (s := s) hm hv hx hy hc
  have ha := cubeP_lt m v k
  have hb := cubeP_lt x y k
  have hz := cubeP_lt (meetM m x) (meetV m v x y) k
  refine fun_of_W (N := 130) Try.func12 ent12 rfl rfl rfl (by simp) ?_
  have H := Hp.start0 w
  refine H.box 46 (cv _ _) (cs := cc _ _) rfl ?_
  clear H
  intro g4 w4 H
  refine H.box 46 (cv _ _) (cs := cc _ _) rfl ?_
  clear H
  intro g5 w5 H
  refine H.box 46 (cv _ _) (cs := cc _ _) rfl ?_
  clear H
  intro g6 w6 H
  refine H.loadAll 2 rfl agg46 size46 ?_
  refine call_fn (c57_a _ _ (by assumption) (by assumption) _ (by assumption) _) ?_
  rintro _ w8 ⟨rfl, hk⟩
  replace H := H.same hk
  clear hk
  rw [h1]
  refine cond_no rfl ?_
  refine H.loadAll 1 rfl agg46 size46 ?_
  iterate 2 refine cond_no rfl ?_
  refine call_fn (c57_a _ _ (by assumption) (by assumption) _ (by assumption) _) ?_
  rintro _ w14 ⟨rfl, hk⟩
  replace H := H.same hk
  clear hk
  rw [h2]
  iterate 3 refine cond_no rfl ?_
  refine H.loadAll 0 rfl agg46 size46 ?_
  iterate 2 refine cond_no rfl ?_
  refine call_fn (c57_a _ _ (by assumption) (by assumption) _ (by assumption) _) ?_
  rintro _ w22 ⟨rfl, hk⟩
  replace H := H.same hk
  clear hk
  rw [h3]
  iterate 3 refine cond_no rfl ?_
  refine H.loadAll 2 rfl agg46 size46 ?_
  refine call_fn (c55_a _ _ (by assumption) (by assumption) _ (by assumption) (by assumption) _) ?_
  rintro _ w28 ⟨rfl, hk⟩
  replace H := H.same hk
  clear hk
  refine H.alloc 24 (cs := sc 0) zero24 sc_zero ?_
  clear H
  intro g29 w29 H
  refine H.storeSet 0 rfl ?_
  clear H
  intro w30 H
  refine H.loadAll 2 rfl agg46 size46 ?_
  refine call_fn (c55_a _ _ (by assumption) (by assumption) _ (by assumption) (by assumption) _) ?_
  rintro _ w32 ⟨rfl, hk⟩
  replace H := H.same hk
  clear hk
  refine H.alloc 24 (cs := sc 0) zero24 sc_zero ?_
  clear H
  intro g33 w33 H
  refine H.storeSet 0 rfl ?_
  clear H
  intro w34 H
  refine H.loadAll 4 rfl agg46 size46 ?_
  refine H.loadAll 3 rfl agg46 size46 ?_
  refine call_fn (c75 _ _ _ _ (by assumption) (by assumption) (by assumption) (by assumption) _) ?_
  rintro _ w37 ⟨rfl, hk⟩
  replace H := H.same hk
  clear hk
  rw [hmt]
  refine H.alloc 46 (cs := cc 0 0) zero46 rfl ?_
  clear H
  intro g39 w39 H
  refine H.storeCube 0 rfl ?_
  clear H
  intro w40 H
  refine H.loadAll 0 rfl agg46 size46 ?_
  refine call_fn (c55_a _ _ (by first | assumption | omega | decide) (by first | assumption | omega | decide) _ (by first | assumption | omega | decide) (by first | assumption | omega | decide) _) ?_
  rintro _ w42 ⟨rfl, hk⟩
  replace H := H.same hk
  clear hk
  refine H.alloc 24 (cs := sc 0) zero24 sc_zero ?_
  clear H
  intro g43 w43 H
  refine H.storeSet 0 rfl ?_
  clear H
  intro w44 H
  refine cond_yes rfl ?_
  refine build24z ?_
  refine H.storeSet 0 rfl ?_
  clear H
  intro w47 H
  refine H.loadAll 6 rfl agg46 size46 ?_
  refine call_fn (c76 _ _ (by assumption) _) ?_
  rintro _ w49 ⟨rfl, hk⟩
  replace H := H.same hk
  clear hk
  refine loop_rule (γ := Nat) _ rfl (fun i => [(18, .int .i64 (i : Int)), (17, .int .i64 ((2 ^ (i - popc m) : Nat) : Int))]) (fun i w' => (popc m ≤ i ∧ i ≤ k) ∧ H.cl w') (fun i => k - i) (popc m) ⟨rfl, by rw [Nat.sub_self]; rfl, trivial⟩ ⟨⟨Nat.le_refl _, hpk⟩, H⟩ ?_
  rintro i u w8 ⟨⟨hi1, hi2⟩, H2⟩
  have H : Hp _ _ _ _ _ := H2
  refine cond_dec (fun h9 => ?_) (fun h9 => ?_)
  · exact ⟨i + 1, by omega, ⟨up (by omega), dbl (by omega) (by omega), trivial⟩, ⟨by omega, by omega⟩, H2⟩
  · obtain rfl : i = k := by omega
    refine H.loadAll 6 rfl agg46 size46 ?_
    refine H.loadAll 5 rfl agg46 size46 ?_
    refine call_fn (c77 _ _ _ _ (by assumption) (by assumption) (by assumption) (by assumption) _) ?_
    rintro _ w11 ⟨rfl, hk⟩
    replace H := H.same hk
    clear hk
    refine H.alloc 46 (cs := cc 0 0) zero46 rfl ?_
    clear H
    intro g12 w12 H
    refine H.storeCube 0 rfl ?_
    clear H
    intro w13 H
    refine H.draw fol (by kernel_rfl) ?_
    clear H
    intro w15 H
    refine quiet _ (fun w H => H.loadAll 4 rfl agg24 size24 ⟨rfl, rfl⟩) ?_
    refine call_fn (c43 _ ha _) ?_
    rintro _ w7 ⟨rfl, hk⟩
    replace H := H.same hk
    clear hk
    refine ⟨.inl H, ?_⟩
    iterate 3 refine cond_no (bne_eq_false_iff_eq.2 (by omega)) ?_
    refine cond_no rfl ?_
    refine quiet _ (fun w H => H.loadAll 7 rfl agg46 size46 ⟨rfl, rfl⟩) ?_
    refine cond_no rfl ?_
    refine quiet _ (fun w H => H.loadAll 6 rfl agg46 size46 ⟨rfl, rfl⟩) ?_
    refine cond_no rfl ?_
    refine call_fn (c78 _ _ _ _ (by assumption) (by assumption) (by assumption) (by assumption) _) ?_
    rintro _ w25 ⟨rfl, hk⟩
    replace H := H.same hk
    clear hk
    refine ⟨.inl H, ?_⟩
    refine cond_no rfl ?_
    refine quiet _ (fun w H => H.loadAll 3 rfl agg24 size24 ⟨rfl, rfl⟩) ?_
    refine cond_no rfl ?_
    refine quiet _ (fun w H => H.loadAll 4 rfl agg24 size24 ⟨rfl, rfl⟩) ?_
    refine cond_no rfl ?_
    refine call_fn (c54 _ _ hb _) ?_
    rintro _ w10 ⟨rfl, hk⟩
    replace H := H.same hk
    clear hk
    refine ⟨.inl H, ?_⟩
    refine cond_no rfl ?_
    refine quiet _ (fun w H => bin_neq_bool Try.underlying4 ⟨rfl, rfl⟩) ?_
    refine cond_no rfl ?_
    refine cond_no (bne_eq_false_iff_eq.2 (by omega)) ?_
    refine quiet _ (fun w H => H.loadAll 4 rfl agg24 size24 ⟨rfl, rfl⟩) ?_
    refine cond_no (bne_eq_false_iff_eq.2 (by omega)) ?_
    refine quiet _ (fun w H => H.loadAll 3 rfl agg24 size24 ⟨rfl, rfl⟩) ?_
    refine cond_no (bne_eq_false_iff_eq.2 (by omega)) ?_
    refine call_fn (c51 _ _ _) ?_
    rintro _ w27 ⟨rfl, hk⟩
    replace H := H.same hk
    clear hk
    rw [hpts]
    refine ⟨.inl H, ?_⟩
    refine cond_no (bne_eq_false_iff_eq.2 (by omega)) ?_
    refine quiet _ (fun w H => H.loadAll 1 rfl agg24 size24 ⟨rfl, rfl⟩) ?_
    refine cond_no (bne_eq_false_iff_eq.2 (by omega)) ?_
    refine quiet _ (fun w H => bin_neq24 (by first | assumption | decide) (by first | assumption | decide) ⟨rfl, rfl⟩) ?_
    refine cond_no (bne_eq_false_iff_eq.2 (by omega)) ?_
    refine cond_no rfl ?_
    refine quiet _ (fun w H => H.loadAll 0 rfl agg46 size46 ⟨rfl, rfl⟩) ?_
    refine cond_no rfl ?_
    refine quiet _ (fun w H => H.loadAll 7 rfl agg46 size46 ⟨rfl, rfl⟩) ?_
    refine cond_no rfl ?_
    refine call_fn (c78 _ _ _ _ (by first | assumption | omega | decide | (repeat' (first | assumption | refine and_lt8 ?_ _ | refine xor_lt8 ?_ ?_ | refine or_lt8 ?_ ?_))) (by first | assumption | omega | decide | (repeat' (first | assumption | refine and_lt8 ?_ _ | refine xor_lt8 ?_ ?_ | refine or_lt8 ?_ ?_))) (by first | assumption | omega | decide | (repeat' (first | assumption | refine and_lt8 ?_ _ | refine xor_lt8 ?_ ?_ | refine or_lt8 ?_ ?_))) (by first | assumption | omega | decide | (repeat' (first | assumption | refine and_lt8 ?_ _ | refine xor_lt8 ?_ ?_ | refine or_lt8 ?_ ?_))) _) ?_
    rintro _ w54 ⟨rfl, hk⟩
    replace H := H.same hk
    clear hk
    refine ⟨.inl H, ?_⟩
    iterate 2 refine cond_no rfl ?_
    refine cond_no (by simp only [*, Bool.not_false, Bool.not_true]) ?_
    refine quiet _ (fun w H => H.loadAll 0 rfl agg46 size46 ⟨rfl, rfl⟩) ?_
    refine cond_no (by simp only [*, Bool.not_false, Bool.not_true]) ?_
    refine quiet _ (fun w H => H.loadAll 6 rfl agg46 size46 ⟨rfl, rfl⟩) ?_
    refine cond_no (by simp only [*, Bool.not_false, Bool.not_true]) ?_
    refine call_fn (c78 _ _ _ _ (by first | assumption | omega | decide | (repeat' (first | assumption | refine and_lt8 ?_ _ | refine xor_lt8 ?_ ?_ | refine or_lt8 ?_ ?_))) (by first | assumption | omega | decide | (repeat' (first | assumption | refine and_lt8 ?_ _ | refine xor_lt8 ?_ ?_ | refine or_lt8 ?_ ?_))) (by first | assumption | omega | decide | (repeat' (first | assumption | refine and_lt8 ?_ _ | refine xor_lt8 ?_ ?_ | refine or_lt8 ?_ ?_))) (by first | assumption | omega | decide | (repeat' (first | assumption | refine and_lt8 ?_ _ | refine xor_lt8 ?_ ?_ | refine or_lt8 ?_ ?_))) _) ?_
    rintro _ w63 ⟨rfl, hk⟩
    replace H := H.same hk
    clear hk
    refine ⟨.inl H, ?_⟩
    iterate 3 refine cond_no (by simp only [*, Bool.not_false, Bool.not_true]) ?_
    refine H.loadAll 5 rfl agg46 size46 ?_
    refine H.loadAll 7 rfl agg46 size46 ?_
    refine call_fn (c78 _ _ _ _ (by assumption) (by assumption) (by assumption) (by assumption) _) ?_
    rintro _ w70 ⟨rfl, hk⟩
    replace H := H.same hk
    clear hk
    refine cond_split (fun h71 => ?_) (fun h71 => ?_)
    · refine cond_yes (by assumption) ?_
      iterate 3 refine cond_yes (by assumption) ?_
      iterate 5 refine cond_yes rfl ?_
      refine call_fn (c59 _) ?_
      rintro _ w81 ⟨rfl, hk⟩
      replace H := H.same hk
      clear hk
      refine cond_yes rfl ?_
      exact ⟨rfl, H.keeps⟩
    · refine H.loadAll 5 rfl agg46 size46 ?_
      refine cond_no (by assumption) ?_
      refine H.loadAll 6 rfl agg46 size46 ?_
      refine cond_no (by assumption) ?_
      refine call_fn (c78 _ _ _ _ (by assumption) (by assumption) (by assumption) (by assumption) _) ?_
      rintro _ w88 ⟨rfl, hk⟩
      replace H := H.same hk
      clear hk
      iterate 2 refine cond_no (by assumption) ?_
      refine cond_split (fun h91 => ?_) (fun h91 => ?_)
      · refine cond_yes (by assumption) ?_
        iterate 2 refine cond_yes (by assumption) ?_
        refine cond_yes rfl ?_
        refine call_fn (c59 _) ?_
        rintro _ w96 ⟨rfl, hk⟩
        replace H := H.same hk
        clear hk
        refine cond_yes rfl ?_
        exact ⟨rfl, H.keeps⟩
      · refine H.loadAll 5 rfl agg46 size46 ?_
        refine cond_no (by assumption) ?_
        refine H.loadAll 0 rfl agg46 size46 ?_
        refine cond_no (by assumption) ?_
        refine call_fn (c78 _ _ _ _ (by first | assumption | omega | decide | (repeat' (first | assumption | refine and_lt8 ?_ _ | refine xor_lt8 ?_ ?_ | refine or_lt8 ?_ ?_))) (by first | assumption | omega | decide | (repeat' (first | assumption | refine and_lt8 ?_ _ | refine xor_lt8 ?_ ?_ | refine or_lt8 ?_ ?_))) (by first | assumption | omega | decide | (repeat' (first | assumption | refine and_lt8 ?_ _ | refine xor_lt8 ?_ ?_ | refine or_lt8 ?_ ?_))) (by first | assumption | omega | decide | (repeat' (first | assumption | refine and_lt8 ?_ _ | refine xor_lt8 ?_ ?_ | refine or_lt8 ?_ ?_))) _) ?_
        rintro _ w103 ⟨rfl, hk⟩
        replace H := H.same hk
        clear hk
        refine cond_no (by assumption) ?_
        refine cond_split (fun h105 => ?_) (fun h105 => ?_)
        · refine call_fn (c59 _) ?_
          rintro _ w106 ⟨rfl, hk⟩
          replace H := H.same hk
          clear hk
          refine cond_yes (by assumption) ?_
          exact ⟨rfl, H.keeps⟩
        · exact absurd (hjl (by simpa using ‹(!holdsB c s m v) = false›) (by simpa using ‹(!holdsB c s x y) = false›)) (by rw [‹holdsB c s (joinM m v x y) (v &&& joinM m v x y) = false›]; decide)
theorem law12_1 (m v x y c s : Nat) (hm : m < 256) (hv : v < 256) (hx : x < 256) (hy : y < 256) (hc : c < 256) (hs : s < 256) (k : Nat) (hk8 : k ≤ 8) (w : World)
    (h1 : rightN m v (k : Int) = true) (h2 : rightN x y (k : Int) = true) (h3 : rightN c s (k : Int) = true) (hmt : meetB m v x y = true) (hpk : popc m ≤ k) (hpts : cubeP m v k &&& cubeP x y k = cubeP (meetM m x) (meetV m v x y) k)
    (hcnt : popc (cubeP m v k) = 2 ^ (k - popc m)) (hhp : holdsB m v x y = (lessN (cubeP x y k) (cubeP m v k) == 0)) (hM : meetM m x < 256) (hV : meetV m v x y < 256) (hmr : rightN (meetM m x) (meetV m v x y) (k : Int) = true) :
    Fun Try.prog 12 [cv m v, cv x y, cv c s, .int .i64 (k : Int)] w fun v w' => v = .bool true ∧ Same w w' := by
  obtain ⟨hj1, hj2⟩ := join_holds hm hv hx hy
  have hjl := join_least (c := c) (s := s) hm hv hx hy hc
  have ha := cubeP_lt m v k
  have hb := cubeP_lt x y k
  have hz := cubeP_lt (meetM m x) (meetV m v x y) k
  refine fun_of_W (N := 130) Try.func12 ent12 rfl rfl rfl (by simp) ?_
  have H := Hp.start0 w
  refine H.box 46 (cv _ _) (cs := cc _ _) rfl ?_
  clear H
  intro g4 w4 H
  refine H.box 46 (cv _ _) (cs := cc _ _) rfl ?_
  clear H
  intro g5 w5 H
  refine H.box 46 (cv _ _) (cs := cc _ _) rfl ?_
  clear H
  intro g6 w6 H
  refine H.loadAll 2 rfl agg46 size46 ?_
  refine call_fn (c57_a _ _ (by assumption) (by assumption) _ (by assumption) _) ?_
  rintro _ w8 ⟨rfl, hk⟩
  replace H := H.same hk
  clear hk
  rw [h1]
  refine cond_no rfl ?_
  refine H.loadAll 1 rfl agg46 size46 ?_
  iterate 2 refine cond_no rfl ?_
  refine call_fn (c57_a _ _ (by assumption) (by assumption) _ (by assumption) _) ?_
  rintro _ w14 ⟨rfl, hk⟩
  replace H := H.same hk
  clear hk
  rw [h2]
  iterate 3 refine cond_no rfl ?_
  refine H.loadAll 0 rfl agg46 size46 ?_
  iterate 2 refine cond_no rfl ?_
  refine call_fn (c57_a _ _ (by assumption) (by assumption) _ (by assumption) _) ?_
  rintro _ w22 ⟨rfl, hk⟩
  replace H := H.same hk
  clear hk
  rw [h3]
  iterate 3 refine cond_no rfl ?_
  refine H.loadAll 2 rfl agg46 size46 ?_
  refine call_fn (c55_a _ _ (by assumption) (by assumption) _ (by assumption) (by assumption) _) ?_
  rintro _ w28 ⟨rfl, hk⟩
  replace H := H.same hk
  clear hk
  refine H.alloc 24 (cs := sc 0) zero24 sc_zero ?_
  clear H
  intro g29 w29 H
  refine H.storeSet 0 rfl ?_
  clear H
  intro w30 H
  refine H.loadAll 2 rfl agg46 size46 ?_
  refine call_fn (c55_a _ _ (by assumption) (by assumption) _ (by assumption) (by assumption) _) ?_
  rintro _ w32 ⟨rfl, hk⟩
  replace H := H.same hk
  clear hk
  refine H.alloc 24 (cs := sc 0) zero24 sc_zero ?_
  clear H
  intro g33 w33 H
  refine H.storeSet 0 rfl ?_
  clear H
  intro w34 H
  refine H.loadAll 4 rfl agg46 size46 ?_
  refine H.loadAll 3 rfl agg46 size46 ?_
  refine call_fn (c75 _ _ _ _ (by assumption) (by assumption) (by assumption) (by assumption) _) ?_
  rintro _ w37 ⟨rfl, hk⟩
  replace H := H.same hk
  clear hk
  rw [hmt]
  refine H.alloc 46 (cs := cc 0 0) zero46 rfl ?_
  clear H
  intro g39 w39 H
  refine H.storeCube 0 rfl ?_
  clear H
  intro w40 H
  refine H.loadAll 0 rfl agg46 size46 ?_
  refine call_fn (c55_a _ _ (by assumption) (by assumption) _ (by assumption) (by assumption) _) ?_
  rintro _ w42 ⟨rfl, hk⟩
  replace H := H.same hk
  clear hk
  refine H.alloc 24 (cs := sc 0) zero24 sc_zero ?_
  clear H
  intro g43 w43 H
  refine H.storeSet 0 rfl ?_
  clear H
  intro w44 H
  refine cond_no rfl ?_
  refine H.loadAll 6 rfl agg46 size46 ?_
  refine call_fn (c76 _ _ (by assumption) _) ?_
  rintro _ w47 ⟨rfl, hk⟩
  replace H := H.same hk
  clear hk
  refine loop_rule (γ := Nat) _ rfl (fun i => [(18, .int .i64 (i : Int)), (17, .int .i64 ((2 ^ (i - popc m) : Nat) : Int))]) (fun i w' => (popc m ≤ i ∧ i ≤ k) ∧ H.cl w') (fun i => k - i) (popc m) ⟨rfl, by rw [Nat.sub_self]; rfl, trivial⟩ ⟨⟨Nat.le_refl _, hpk⟩, H⟩ ?_
  rintro i u w8 ⟨⟨hi1, hi2⟩, H2⟩
  have H : Hp _ _ _ _ _ := H2
  refine cond_dec (fun h9 => ?_) (fun h9 => ?_)
  · exact ⟨i + 1, by omega, ⟨up (by omega), dbl (by omega) (by omega), trivial⟩, ⟨by omega, by omega⟩, H2⟩
  · obtain rfl : i = k := by omega
    refine H.loadAll 6 rfl agg46 size46 ?_
    refine H.loadAll 5 rfl agg46 size46 ?_
    refine call_fn (c77 _ _ _ _ (by assumption) (by assumption) (by assumption) (by assumption) _) ?_
    rintro _ w11 ⟨rfl, hk⟩
    replace H := H.same hk
    clear hk
    refine H.alloc 46 (cs := cc 0 0) zero46 rfl ?_
    clear H
    intro g12 w12 H
    refine H.storeCube 0 rfl ?_
    clear H
    intro w13 H
    refine H.draw fol (by kernel_rfl) ?_
    clear H
    intro w15 H
    refine quiet _ (fun w H => H.loadAll 4 rfl agg24 size24 ⟨rfl, rfl⟩) ?_
    refine call_fn (c43 _ ha _) ?_
    rintro _ w7 ⟨rfl, hk⟩
    replace H := H.same hk
    clear hk
    refine ⟨.inl H, ?_⟩
    iterate 3 refine cond_no (bne_eq_false_iff_eq.2 (by omega)) ?_
    refine cond_no rfl ?_
    refine quiet _ (fun w H => H.loadAll 7 rfl agg46 size46 ⟨rfl, rfl⟩) ?_
    refine cond_no rfl ?_
    refine quiet _ (fun w H => H.loadAll 6 rfl agg46 size46 ⟨rfl, rfl⟩) ?_
    refine cond_no rfl ?_
    refine call_fn (c78 _ _ _ _ (by assumption) (by assumption) (by assumption) (by assumption) _) ?_
    rintro _ w25 ⟨rfl, hk⟩
    replace H := H.same hk
    clear hk
    refine ⟨.inl H, ?_⟩
    refine cond_no rfl ?_
    refine quiet _ (fun w H => H.loadAll 3 rfl agg24 size24 ⟨rfl, rfl⟩) ?_
    refine cond_no rfl ?_
    refine quiet _ (fun w H => H.loadAll 4 rfl agg24 size24 ⟨rfl, rfl⟩) ?_
    refine cond_no rfl ?_
    refine call_fn (c54 _ _ hb _) ?_
    rintro _ w10 ⟨rfl, hk⟩
    replace H := H.same hk
    clear hk
    refine ⟨.inl H, ?_⟩
    refine cond_no rfl ?_
    refine quiet _ (fun w H => bin_neq_bool Try.underlying4 ⟨rfl, rfl⟩) ?_
    refine cond_no rfl ?_
    refine cond_no (bne_eq_false_iff_eq.2 (by omega)) ?_
    refine quiet _ (fun w H => H.loadAll 4 rfl agg24 size24 ⟨rfl, rfl⟩) ?_
    refine cond_no (bne_eq_false_iff_eq.2 (by omega)) ?_
    refine quiet _ (fun w H => H.loadAll 3 rfl agg24 size24 ⟨rfl, rfl⟩) ?_
    refine cond_no (bne_eq_false_iff_eq.2 (by omega)) ?_
    refine call_fn (c51 _ _ _) ?_
    rintro _ w27 ⟨rfl, hk⟩
    replace H := H.same hk
    clear hk
    rw [hpts]
    refine ⟨.inl H, ?_⟩
    refine cond_no (bne_eq_false_iff_eq.2 (by omega)) ?_
    refine quiet _ (fun w H => H.loadAll 1 rfl agg24 size24 ⟨rfl, rfl⟩) ?_
    refine cond_no (bne_eq_false_iff_eq.2 (by omega)) ?_
    refine quiet _ (fun w H => bin_neq24 (by first | assumption | decide) (by first | assumption | decide) ⟨rfl, rfl⟩) ?_
    iterate 2 refine cond_no (bne_eq_false_iff_eq.2 (by omega)) ?_
    refine quiet _ (fun w H => H.loadAll 0 rfl agg46 size46 ⟨rfl, rfl⟩) ?_
    refine cond_no (bne_eq_false_iff_eq.2 (by omega)) ?_
    refine quiet _ (fun w H => H.loadAll 7 rfl agg46 size46 ⟨rfl, rfl⟩) ?_
    refine cond_no (bne_eq_false_iff_eq.2 (by omega)) ?_
    refine call_fn (c78 _ _ _ _ (by first | assumption | omega | decide | (repeat' (first | assumption | refine and_lt8 ?_ _ | refine xor_lt8 ?_ ?_ | refine or_lt8 ?_ ?_))) (by first | assumption | omega | decide | (repeat' (first | assumption | refine and_lt8 ?_ _ | refine xor_lt8 ?_ ?_ | refine or_lt8 ?_ ?_))) (by first | assumption | omega | decide | (repeat' (first | assumption | refine and_lt8 ?_ _ | refine xor_lt8 ?_ ?_ | refine or_lt8 ?_ ?_))) (by first | assumption | omega | decide | (repeat' (first | assumption | refine and_lt8 ?_ _ | refine xor_lt8 ?_ ?_ | refine or_lt8 ?_ ?_))) _) ?_
    rintro _ w53 ⟨rfl, hk⟩
    replace H := H.same hk
    clear hk
    refine ⟨.inl H, ?_⟩
    iterate 2 refine cond_no (bne_eq_false_iff_eq.2 (by omega)) ?_
    refine cond_no (by simp only [*, Bool.not_false, Bool.not_true]) ?_
    refine quiet _ (fun w H => H.loadAll 0 rfl agg46 size46 ⟨rfl, rfl⟩) ?_
    refine cond_no (by simp only [*, Bool.not_false, Bool.not_true]) ?_
    refine quiet _ (fun w H => H.loadAll 6 rfl agg46 size46 ⟨rfl, rfl⟩) ?_
    refine cond_no (by simp only [*, Bool.not_false, Bool.not_true]) ?_
    refine call_fn (c78 _ _ _ _ (by first | assumption | omega | decide | (repeat' (first | assumption | refine and_lt8 ?_ _ | refine xor_lt8 ?_ ?_ | refine or_lt8 ?_ ?_))) (by first | assumption | omega | decide | (repeat' (first | assumption | refine and_lt8 ?_ _ | refine xor_lt8 ?_ ?_ | refine or_lt8 ?_ ?_))) (by first | assumption | omega | decide | (repeat' (first | assumption | refine and_lt8 ?_ _ | refine xor_lt8 ?_ ?_ | refine or_lt8 ?_ ?_))) (by first | assumption | omega | decide | (repeat' (first | assumption | refine and_lt8 ?_ _ | refine xor_lt8 ?_ ?_ | refine or_lt8 ?_ ?_))) _) ?_
    rintro _ w62 ⟨rfl, hk⟩
    replace H := H.same hk
    clear hk
    refine ⟨.inl H, ?_⟩
    iterate 3 refine cond_no (by simp only [*, Bool.not_false, Bool.not_true]) ?_
    refine H.loadAll 5 rfl agg46 size46 ?_
    refine H.loadAll 7 rfl agg46 size46 ?_
    refine call_fn (c78 _ _ _ _ (by assumption) (by assumption) (by assumption) (by assumption) _) ?_
    rintro _ w69 ⟨rfl, hk⟩
    replace H := H.same hk
    clear hk
    refine cond_split (fun h70 => ?_) (fun h70 => ?_)
    · refine cond_yes (by assumption) ?_
      iterate 3 refine cond_yes (by assumption) ?_
      iterate 5 refine cond_yes rfl ?_
      refine call_fn (c59 _) ?_
      rintro _ w80 ⟨rfl, hk⟩
      replace H := H.same hk
      clear hk
      refine cond_yes rfl ?_
      exact ⟨rfl, H.keeps⟩
    · refine H.loadAll 5 rfl agg46 size46 ?_
      refine cond_no (by assumption) ?_
      refine H.loadAll 6 rfl agg46 size46 ?_
      refine cond_no (by assumption) ?_
      refine call_fn (c78 _ _ _ _ (by assumption) (by assumption) (by assumption) (by assumption) _) ?_
      rintro _ w87 ⟨rfl, hk⟩
      replace H := H.same hk
      clear hk
      iterate 2 refine cond_no (by assumption) ?_
      refine cond_split (fun h90 => ?_) (fun h90 => ?_)
      · refine cond_yes (by assumption) ?_
        iterate 2 refine cond_yes (by assumption) ?_
        refine cond_yes rfl ?_
        refine call_fn (c59 _) ?_
        rintro _ w95 ⟨rfl, hk⟩
        replace H := H.same hk
        clear hk
        refine cond_yes rfl ?_
        exact ⟨rfl, H.keeps⟩
      · refine H.loadAll 5 rfl agg46 size46 ?_
        refine cond_no (by assumption) ?_
        refine H.loadAll 0 rfl agg46 size46 ?_
        refine cond_no (by assumption) ?_
        refine call_fn (c78 _ _ _ _ (by first | assumption | omega | decide | (repeat' (first | assumption | refine and_lt8 ?_ _ | refine xor_lt8 ?_ ?_ | refine or_lt8 ?_ ?_))) (by first | assumption | omega | decide | (repeat' (first | assumption | refine and_lt8 ?_ _ | refine xor_lt8 ?_ ?_ | refine or_lt8 ?_ ?_))) (by first | assumption | omega | decide | (repeat' (first | assumption | refine and_lt8 ?_ _ | refine xor_lt8 ?_ ?_ | refine or_lt8 ?_ ?_))) (by first | assumption | omega | decide | (repeat' (first | assumption | refine and_lt8 ?_ _ | refine xor_lt8 ?_ ?_ | refine or_lt8 ?_ ?_))) _) ?_
        rintro _ w102 ⟨rfl, hk⟩
        replace H := H.same hk
        clear hk
        refine cond_no (by assumption) ?_
        refine cond_split (fun h104 => ?_) (fun h104 => ?_)
        · refine call_fn (c59 _) ?_
          rintro _ w105 ⟨rfl, hk⟩
          replace H := H.same hk
          clear hk
          refine cond_yes (by assumption) ?_
          exact ⟨rfl, H.keeps⟩
        · exact absurd (hjl (by simpa using ‹(!holdsB c s m v) = false›) (by simpa using ‹(!holdsB c s x y) = false›)) (by rw [‹holdsB c s (joinM m v x y) (v &&& joinM m v x y) = false›]; decide)
theorem law12 (m v : Nat) (hm : m < 256) (hv : v < 256) (x y : Nat) (hx : x < 256) (hy : y < 256) (c s : Nat) (hc : c < 256) (hs : s < 256) (n : Int) (w : World) : Fun Try.prog 12 [cv m v, cv x y, cv c s, .int .i64 n] w fun v w' => v = .bool true ∧ Same w w' := by
  by_cases hf : rightN m v n = false ∨ rightN x y n = false ∨ rightN c s n = false
  · exact law12_f m v x y c s hm hv hx hy hc hs n w hf
  · rw [not_or, not_or] at hf
    have h1 : rightN m v n = true := by simpa using hf.1
    have h2 : rightN x y n = true := by simpa using hf.2.1
    have h3 : rightN c s n = true := by simpa using hf.2.2
    obtain ⟨h0, h8, hml, hmv⟩ := (rightN_iff hm hv).1 h1
    obtain ⟨_, _, hxl, hxy⟩ := (rightN_iff hx hy).1 h2
    obtain ⟨k, rfl⟩ := Int.eq_ofNat_of_zero_le h0
    rw [Int.toNat_natCast] at hml hxl
    have hk8 : k ≤ 8 := by omega
    have hpts := meet_points hk8 hmv hxy
    have hcnt := popc_cubeP hk8 hml hmv
    have hhp := holds_points hk8 hml hmv hxl hxy
    have hpk := popc_leB k m hml
    cases hmt : meetB m v x y with
    | false =>
      rw [hmt, if_neg (by decide)] at hpts
      exact law12_0 m v x y c s hm hv hx hy hc hs k hk8 w h1 h2 h3 hmt hpk hpts hcnt hhp ((rightN_iff (by decide) (by decide)).2 ⟨h0, h8, by rw [Int.toNat_natCast]; exact Nat.two_pow_pos _, rfl⟩)
    | true =>
      rw [hmt, if_pos rfl] at hpts
      obtain ⟨hml2, hmv2⟩ := meet_right (m := m) (v := v) (x := x) (y := y) hml hmv hxl hxy
      have hM : meetM m x < 256 := or_lt8 hm hx
      have hV : meetV m v x y < 256 := or_lt8 (and_lt8 hv _) (and_lt8 hy _)
      exact law12_1 m v x y c s hm hv hx hy hc hs k hk8 w h1 h2 h3 hmt hpk hpts hcnt hhp hM hV ((rightN_iff hM hV).2 ⟨h0, h8, by rw [Int.toNat_natCast]; exact hml2, hmv2⟩)

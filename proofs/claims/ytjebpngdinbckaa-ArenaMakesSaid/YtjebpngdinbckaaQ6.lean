import Derived.Test.YtjebpngdinbckaaQ5
/- Cubes: the examples, and the statements. -/
namespace Go.Proofs.Ytjebpngdinbckaa
open Go.Dk
attribute [local irreducible] IntKind.wrap

theorem pk1 : parseC [49, 45, 48] = cv 5 1 := by kernel_rfl
theorem pk2 : parseC [49, 48] = cv 3 1 := by kernel_rfl
theorem pk3 : parseC [49, 49] = cv 3 3 := by kernel_rfl
theorem pe1 : (if parseOk [49, 45, 48] = true then (0 : Int) else 2) = 0 := by kernel_rfl
theorem pe2 : (if parseOk [49, 48] = true then (0 : Int) else 2) = 0 := by kernel_rfl
theorem pe3 : (if parseOk [49, 49] = true then (0 : Int) else 2) = 0 := by kernel_rfl
theorem pp1 : cubeP 5 1 3 = 10 := by kernel_rfl
theorem pj1 : cv (joinM 3 1 3 3) (1 &&& joinM 3 1 3 3) = cv 1 1 := by kernel_rfl
theorem pt1 : textL 1 1 2 = [49, 45] := by kernel_rfl
theorem ps1 : popc 5 = 2 := by simp [popc_step 5, popc_step 2, popc_step 1, popc_zero]
theorem build24_10 {w : World} {kk : Value → World → Prop} (h : kk (sv 10) w) : buildK Try.prog 24 [(0, .int .u64 10)] w kk :=
  build_by (fun w => by kernel_rfl) h
theorem bin_eql24_10 {w : World} {xo yo : Operand} {kk : Value → World → Prop} (h : kk (.bool true) w) : binK Try.prog .eql 24 xo yo (sv 10) (sv 10) w kk :=
  bin_eql24 (by decide) (by decide) h
theorem ent59 : enters Try.prog 59 = true := by kernel_rfl
theorem c59 (w : World) : Fun Try.prog 59 [] w fun r w' => r = .bool true ∧ Same w w' := by
  refine fun_of_W (N := 68) Try.func59 ent59 rfl rfl rfl (by simp) ?_
  have H := Hp.start0 w
  refine call_fn (c62 [49, 45, 48] (by decide) _) ?_
  rintro _ w1 ⟨rfl, hk⟩
  replace H := H.same hk
  clear hk
  rw [pk1, pe1]
  refine H.alloc 46 (cs := cc 0 0) zero46 rfl ?_
  clear H
  intro g2 w2 H
  refine H.storeCube 0 rfl ?_
  clear H
  intro w3 H
  refine H.loadAll 0 rfl agg46 size46 ?_
  refine call_fn (c55_a 5 1 (by decide) (by decide) 3 (by decide) (by kernel_rfl) _) ?_
  rintro _ w5 ⟨rfl, hk⟩
  replace H := H.same hk
  clear hk
  rw [pp1]
  refine H.alloc 24 (cs := sc 0) zero24 sc_zero ?_
  clear H
  intro g6 w6 H
  refine H.storeSet 0 rfl ?_
  clear H
  intro w7 H
  refine call_fn (c62 [49, 48] (by decide) _) ?_
  rintro _ w8 ⟨rfl, hk⟩
  replace H := H.same hk
  clear hk
  rw [pk2, pe2]
  refine H.alloc 46 (cs := cc 0 0) zero46 rfl ?_
  clear H
  intro g9 w9 H
  refine H.storeCube 0 rfl ?_
  clear H
  intro w10 H
  refine call_fn (c62 [49, 49] (by decide) _) ?_
  rintro _ w11 ⟨rfl, hk⟩
  replace H := H.same hk
  clear hk
  rw [pk3, pe3]
  refine H.alloc 46 (cs := cc 0 0) zero46 rfl ?_
  clear H
  intro g12 w12 H
  refine H.storeCube 0 rfl ?_
  clear H
  intro w13 H
  refine H.loadAll 1 rfl agg46 size46 ?_
  refine H.loadAll 0 rfl agg46 size46 ?_
  refine call_fn (c77 3 1 3 3 (by decide) (by decide) (by decide) (by decide) _) ?_
  rintro _ w16 ⟨rfl, hk⟩
  replace H := H.same hk
  clear hk
  rw [pj1]
  refine call_fn (c56_a 1 1 (by decide) (by decide) 2 (by decide) (by kernel_rfl) _) ?_
  rintro _ w17 ⟨rfl, hk⟩
  replace H := H.same hk
  clear hk
  rw [pt1]
  refine cond_yes rfl ?_
  refine H.loadAll 3 rfl agg46 size46 ?_
  refine cond_yes rfl ?_
  refine build46 ?_
  refine cond_yes rfl ?_
  refine bin_eql46 ?_
  iterate 2 refine cond_yes rfl ?_
  refine H.loadAll 2 rfl agg24 size24 ?_
  refine cond_yes rfl ?_
  refine build24_10 ?_
  refine cond_yes rfl ?_
  refine bin_eql24_10 ?_
  iterate 6 refine cond_yes rfl ?_
  refine bin_eql_strL ?_
  iterate 5 refine cond_yes rfl ?_
  refine H.loadAll 3 rfl agg46 size46 ?_
  refine cond_yes rfl ?_
  refine call_fn (c76 5 1 (by decide) _) ?_
  rintro _ w45 ⟨rfl, hk⟩
  replace H := H.same hk
  clear hk
  rw [ps1]
  iterate 3 refine cond_yes rfl ?_
  refine H.loadAll 3 rfl agg46 size46 ?_
  refine cond_yes rfl ?_
  refine call_fn (c58_a 5 1 (by decide) (by decide) 3 (by decide) _) ?_
  rintro _ w51 ⟨rfl, hk⟩
  replace H := H.same hk
  clear hk
  rw [show rightN 5 1 (3 : Nat) = true from rfl]
  refine cond_yes rfl ?_
  exact ⟨rfl, H.keeps⟩

/-! ### CubePoints and CubeParses -/
theorem refP_eq {m v : Nat} (n : Nat) (hm : m < 256) (hv : v &&& m = v) : refP m v n = cubeP m v n := by
  unfold refP cubeP
  refine set_ext (setOf_lt _) (setOf_lt _) fun p hp => ?_
  rw [testBit_setOf, testBit_setOf, hasC_eq hm hv]
theorem build24z {w : World} {kk : Value → World → Prop} (h : kk (sv 0) w) : buildK Try.prog 24 [] w kk := build24 h
theorem ent7 : enters Try.prog 7 = true := by kernel_rfl
theorem law7 (m v : Nat) (hm : m < 256) (hv : v < 256) (n : Int) (w : World) : Fun Try.prog 7 [cv m v, .int .i64 n] w fun v w' => v = .bool true ∧ Same w w' := by
  refine fun_of_W (N := 73) Try.func7 ent7 rfl rfl rfl (by simp) ?_
  have H := Hp.start0 w
  cases hr : rightN m v n with
  | false =>
    refine H.box 46 (cv _ _) (cs := cc _ _) rfl ?_
    clear H
    intro g1 w1 H
    refine H.loadAll 0 rfl agg46 size46 ?_
    refine call_fn (c55_b _ _ (by first | assumption | omega | decide | (repeat' (first | assumption | refine and_lt8 ?_ _ | refine xor_lt8 ?_ ?_ | refine or_lt8 ?_ ?_))) (by first | assumption | omega | decide | (repeat' (first | assumption | refine and_lt8 ?_ _ | refine xor_lt8 ?_ ?_ | refine or_lt8 ?_ ?_))) _ (by first | assumption | omega | decide | (repeat' (first | assumption | refine and_lt8 ?_ _ | refine xor_lt8 ?_ ?_ | refine or_lt8 ?_ ?_))) _) ?_
    rintro _ w3 ⟨rfl, hk⟩
    replace H := H.same hk
    clear hk
    refine H.alloc 24 (cs := sc 0) zero24 sc_zero ?_
    clear H
    intro g4 w4 H
    refine H.storeSet 0 rfl ?_
    clear H
    intro w5 H
    refine H.loadAll 1 rfl agg46 size46 ?_
    refine call_fn (c56_b _ _ (by first | assumption | omega | decide | (repeat' (first | assumption | refine and_lt8 ?_ _ | refine xor_lt8 ?_ ?_ | refine or_lt8 ?_ ?_))) (by first | assumption | omega | decide | (repeat' (first | assumption | refine and_lt8 ?_ _ | refine xor_lt8 ?_ ?_ | refine or_lt8 ?_ ?_))) _ (by first | assumption | omega | decide | (repeat' (first | assumption | refine and_lt8 ?_ _ | refine xor_lt8 ?_ ?_ | refine or_lt8 ?_ ?_))) _) ?_
    rintro _ w7 ⟨rfl, hk⟩
    replace H := H.same hk
    clear hk
    refine H.loadAll 1 rfl agg46 size46 ?_
    refine call_fn (c57 _ _ (by first | assumption | omega | decide | (repeat' (first | assumption | refine and_lt8 ?_ _ | refine xor_lt8 ?_ ?_ | refine or_lt8 ?_ ?_))) (by first | assumption | omega | decide | (repeat' (first | assumption | refine and_lt8 ?_ _ | refine xor_lt8 ?_ ?_ | refine or_lt8 ?_ ?_))) _ _) ?_
    rintro _ w9 ⟨rfl, hk⟩
    replace H := H.same hk
    clear hk
    rw [hr]
    refine H.loadAll 1 rfl agg46 size46 ?_
    refine call_fn (c58 _ _ (by first | assumption | omega | decide | (repeat' (first | assumption | refine and_lt8 ?_ _ | refine xor_lt8 ?_ ?_ | refine or_lt8 ?_ ?_))) (by first | assumption | omega | decide | (repeat' (first | assumption | refine and_lt8 ?_ _ | refine xor_lt8 ?_ ?_ | refine or_lt8 ?_ ?_))) _ _) ?_
    rintro _ w12 ⟨rfl, hk⟩
    replace H := H.same hk
    clear hk
    rw [hr]
    refine bin_neq_bool Try.underlying4 ?_
    refine cond_no rfl ?_
    refine cond_yes rfl ?_
    refine H.loadAll 0 rfl agg24 size24 ?_
    refine build24z ?_
    refine bin_eql24 (by first | assumption | decide) (by first | assumption | decide) ?_
    iterate 5 refine cond_yes rfl ?_
    refine bin_eql_strL ?_
    iterate 5 refine cond_yes rfl ?_
    refine call_fn (c59 _) ?_
    rintro _ w31 ⟨rfl, hk⟩
    replace H := H.same hk
    clear hk
    refine cond_yes rfl ?_
    exact ⟨rfl, H.keeps⟩
  | true =>
    obtain ⟨h0, h8, hlt, hsub⟩ := (rightN_iff hm hv).1 hr
    obtain ⟨k, rfl⟩ := Int.eq_ofNat_of_zero_le h0
    have hcl := cubeP_lt m v k
    refine H.box 46 (cv _ _) (cs := cc _ _) rfl ?_
    clear H
    intro g1 w1 H
    refine H.loadAll 0 rfl agg46 size46 ?_
    refine call_fn (c55_a _ _ (by first | assumption | omega | decide | (repeat' (first | assumption | refine and_lt8 ?_ _ | refine xor_lt8 ?_ ?_ | refine or_lt8 ?_ ?_))) (by first | assumption | omega | decide | (repeat' (first | assumption | refine and_lt8 ?_ _ | refine xor_lt8 ?_ ?_ | refine or_lt8 ?_ ?_))) _ (by first | assumption | omega | decide | (repeat' (first | assumption | refine and_lt8 ?_ _ | refine xor_lt8 ?_ ?_ | refine or_lt8 ?_ ?_))) (by first | assumption | omega | decide | (repeat' (first | assumption | refine and_lt8 ?_ _ | refine xor_lt8 ?_ ?_ | refine or_lt8 ?_ ?_))) _) ?_
    rintro _ w3 ⟨rfl, hk⟩
    replace H := H.same hk
    clear hk
    refine H.alloc 24 (cs := sc 0) zero24 sc_zero ?_
    clear H
    intro g4 w4 H
    refine H.storeSet 0 rfl ?_
    clear H
    intro w5 H
    refine H.loadAll 1 rfl agg46 size46 ?_
    refine call_fn (c56_a _ _ (by first | assumption | omega | decide | (repeat' (first | assumption | refine and_lt8 ?_ _ | refine xor_lt8 ?_ ?_ | refine or_lt8 ?_ ?_))) (by first | assumption | omega | decide | (repeat' (first | assumption | refine and_lt8 ?_ _ | refine xor_lt8 ?_ ?_ | refine or_lt8 ?_ ?_))) _ (by first | assumption | omega | decide | (repeat' (first | assumption | refine and_lt8 ?_ _ | refine xor_lt8 ?_ ?_ | refine or_lt8 ?_ ?_))) (by first | assumption | omega | decide | (repeat' (first | assumption | refine and_lt8 ?_ _ | refine xor_lt8 ?_ ?_ | refine or_lt8 ?_ ?_))) _) ?_
    rintro _ w7 ⟨rfl, hk⟩
    replace H := H.same hk
    clear hk
    refine H.loadAll 1 rfl agg46 size46 ?_
    refine call_fn (c57_a _ _ (by first | assumption | omega | decide | (repeat' (first | assumption | refine and_lt8 ?_ _ | refine xor_lt8 ?_ ?_ | refine or_lt8 ?_ ?_))) (by first | assumption | omega | decide | (repeat' (first | assumption | refine and_lt8 ?_ _ | refine xor_lt8 ?_ ?_ | refine or_lt8 ?_ ?_))) _ (by first | assumption | omega | decide | (repeat' (first | assumption | refine and_lt8 ?_ _ | refine xor_lt8 ?_ ?_ | refine or_lt8 ?_ ?_))) _) ?_
    rintro _ w10 ⟨rfl, hk⟩
    replace H := H.same hk
    clear hk
    rw [hr]
    refine H.loadAll 1 rfl agg46 size46 ?_
    refine call_fn (c58_a _ _ (by first | assumption | omega | decide | (repeat' (first | assumption | refine and_lt8 ?_ _ | refine xor_lt8 ?_ ?_ | refine or_lt8 ?_ ?_))) (by first | assumption | omega | decide | (repeat' (first | assumption | refine and_lt8 ?_ _ | refine xor_lt8 ?_ ?_ | refine or_lt8 ?_ ?_))) _ (by first | assumption | omega | decide | (repeat' (first | assumption | refine and_lt8 ?_ _ | refine xor_lt8 ?_ ?_ | refine or_lt8 ?_ ?_))) _) ?_
    rintro _ w13 ⟨rfl, hk⟩
    replace H := H.same hk
    clear hk
    rw [hr]
    refine bin_neq_bool Try.underlying4 ?_
    iterate 2 refine cond_no rfl ?_
    refine H.draw fol (by kernel_rfl) ?_
    clear H
    intro w18 H
    refine quiet _ (fun w H => H.loadAll 0 rfl agg24 size24 ⟨rfl, rfl⟩) ?_
    refine quiet _ (fun w H => H.loadAll 1 rfl agg46 size46 ⟨rfl, rfl⟩) ?_
    refine call_fn (c60 _ _ (by first | assumption | omega | decide | (repeat' (first | assumption | refine and_lt8 ?_ _ | refine xor_lt8 ?_ ?_ | refine or_lt8 ?_ ?_))) (by first | assumption | omega | decide | (repeat' (first | assumption | refine and_lt8 ?_ _ | refine xor_lt8 ?_ ?_ | refine or_lt8 ?_ ?_))) _ (by first | assumption | omega | decide | (repeat' (first | assumption | refine and_lt8 ?_ _ | refine xor_lt8 ?_ ?_ | refine or_lt8 ?_ ?_))) _) ?_
    rintro _ w21 ⟨rfl, hk⟩
    replace H := H.same hk
    clear hk
    rw [refP_eq k hm hsub]
    refine ⟨.inl H, ?_⟩
    refine quiet _ (fun w H => bin_eql24 (by first | assumption | decide) (by first | assumption | decide) ⟨rfl, rfl⟩) ?_
    iterate 3 refine cond_yes (beq_self_eq_true _) ?_
    iterate 2 refine cond_yes rfl ?_
    refine quiet _ (fun w H => H.loadAll 1 rfl agg46 size46 ⟨rfl, rfl⟩) ?_
    iterate 2 refine cond_yes rfl ?_
    refine call_fn (c61 _ _ (by first | assumption | omega | decide | (repeat' (first | assumption | refine and_lt8 ?_ _ | refine xor_lt8 ?_ ?_ | refine or_lt8 ?_ ?_))) (by first | assumption | omega | decide | (repeat' (first | assumption | refine and_lt8 ?_ _ | refine xor_lt8 ?_ ?_ | refine or_lt8 ?_ ?_))) _ (by first | assumption | omega | decide | (repeat' (first | assumption | refine and_lt8 ?_ _ | refine xor_lt8 ?_ ?_ | refine or_lt8 ?_ ?_))) _) ?_
    rintro _ w33 ⟨rfl, hk⟩
    replace H := H.same hk
    clear hk
    refine ⟨.inl H, ?_⟩
    refine cond_yes rfl ?_
    refine quiet _ (fun w H => bin_eql_strL ⟨rfl, rfl⟩) ?_
    refine cond_yes rfl ?_
    iterate 3 refine cond_yes (beq_self_eq_true _) ?_
    refine cond_yes rfl ?_
    refine call_fn (c59 _) ?_
    rintro _ w42 ⟨rfl, hk⟩
    replace H := H.same hk
    clear hk
    refine ⟨.inl H, ?_⟩
    refine cond_yes rfl ?_
    exact ⟨rfl, H.keeps⟩
theorem parseC_ok {l : List UInt8} (h : parseOk l = true) : parseC l = cv (parseM l l.length) (parseV l l.length) := by rw [parseC, h]; rfl
theorem parseC_bad {l : List UInt8} (h : parseOk l = false) : parseC l = cv 0 0 := by rw [parseC, h]; rfl
theorem parse_e0 {l : List UInt8} (h : parseOk l = true) : (if parseOk l = true then (0 : Int) else 2) = 0 := by rw [h]; rfl
theorem parse_e2 {l : List UInt8} (h : parseOk l = false) : (if parseOk l = true then (0 : Int) else 2) = 2 := by rw [h]; rfl
theorem ent8 : enters Try.prog 8 = true := by kernel_rfl
theorem parse_textC {m v k : Nat} (hm : m < 2 ^ k) (hv : v &&& m = v) (hk : k ≤ 8) : parseC (textL m v k) = cv m v ∧ (if parseOk (textL m v k) = true then (0 : Int) else 2) = 0 := by
  obtain ⟨h1, h2, h3⟩ := parse_text hm hv hk
  rw [parseC_ok h1, parse_e0 h1, textL_length, h2, h3]
  exact ⟨rfl, rfl⟩
theorem law8 (l : List UInt8) (hl : l.length < 9223372036854775808) (m v : Nat) (hm : m < 256) (hv : v < 256) (n : Int) (w : World) : Fun Try.prog 8 [strV l, cv m v, .int .i64 n] w fun v w' => v = .bool true ∧ Same w w' := by
  refine fun_of_W (N := 87) Try.func8 ent8 rfl rfl rfl (by simp) ?_
  have H := Hp.start0 w
  have hsz := size_str l
  cases hp : parseOk l with
  | false =>
    cases hr : rightN m v n with
    | false =>
      refine H.box 46 (cv _ _) (cs := cc _ _) rfl ?_
      clear H
      intro g1 w1 H
      refine len_str Try.underlying9 ?_
      refine cond_dec (fun h3 => ?_) (fun h3 => ?_)
      · refine call_fn (c59 _) ?_
        rintro _ w4 ⟨rfl, hk⟩
        replace H := H.same hk
        clear hk
        exact ⟨rfl, H.keeps⟩
      · refine call_fn (c62 _ (by first | assumption | omega | decide | (repeat' (first | assumption | refine and_lt8 ?_ _ | refine xor_lt8 ?_ ?_ | refine or_lt8 ?_ ?_))) _) ?_
        rintro _ w6 ⟨rfl, hk⟩
        replace H := H.same hk
        clear hk
        rw [parseC_bad hp]
        rw [parse_e2 hp]
        refine H.alloc 46 (cs := cc 0 0) zero46 rfl ?_
        clear H
        intro g9 w9 H
        refine H.storeCube 0 rfl ?_
        clear H
        intro w10 H
        refine call_fn (c63 _ (by first | assumption | omega | decide | (repeat' (first | assumption | refine and_lt8 ?_ _ | refine xor_lt8 ?_ ?_ | refine or_lt8 ?_ ?_))) _) ?_
        rintro _ w11 ⟨rfl, hk⟩
        replace H := H.same hk
        clear hk
        rw [parseC_bad hp]
        rw [hp]
        refine H.alloc 46 (cs := cc 0 0) zero46 rfl ?_
        clear H
        intro g14 w14 H
        refine H.storeCube 0 rfl ?_
        clear H
        intro w15 H
        refine H.loadAll 1 rfl agg46 size46 ?_
        refine H.loadAll 0 rfl agg46 size46 ?_
        refine bin_neq46 ?_
        iterate 4 refine cond_no rfl ?_
        refine bin_neq_bool Try.underlying4 ?_
        iterate 4 refine cond_no rfl ?_
        iterate 2 refine cond_yes rfl ?_
        refine cond_no rfl ?_
        refine cond_yes rfl ?_
        iterate 3 refine cond_no rfl ?_
        refine H.loadAll 2 rfl agg46 size46 ?_
        refine call_fn (c56_b _ _ (by first | assumption | omega | decide | (repeat' (first | assumption | refine and_lt8 ?_ _ | refine xor_lt8 ?_ ?_ | refine or_lt8 ?_ ?_))) (by first | assumption | omega | decide | (repeat' (first | assumption | refine and_lt8 ?_ _ | refine xor_lt8 ?_ ?_ | refine or_lt8 ?_ ?_))) _ (by first | assumption | omega | decide | (repeat' (first | assumption | refine and_lt8 ?_ _ | refine xor_lt8 ?_ ?_ | refine or_lt8 ?_ ?_))) _) ?_
        rintro _ w36 ⟨rfl, hk⟩
        replace H := H.same hk
        clear hk
        refine cond_yes rfl ?_
        refine call_fn (c59 _) ?_
        rintro _ w38 ⟨rfl, hk⟩
        replace H := H.same hk
        clear hk
        exact ⟨rfl, H.keeps⟩
    | true =>
      obtain ⟨h0, h8', hlt, hsub⟩ := (rightN_iff hm hv).1 hr
      obtain ⟨k, rfl⟩ := Int.eq_ofNat_of_zero_le h0
      obtain ⟨ht1, ht2⟩ := parse_textC (k := k) hlt hsub (by omega)
      have hlen : (textL m v k).length < 9223372036854775808 := by rw [textL_length]; omega
      refine H.box 46 (cv _ _) (cs := cc _ _) rfl ?_
      clear H
      intro g1 w1 H
      refine len_str Try.underlying9 ?_
      refine cond_dec (fun h3 => ?_) (fun h3 => ?_)
      · refine call_fn (c59 _) ?_
        rintro _ w4 ⟨rfl, hk⟩
        replace H := H.same hk
        clear hk
        exact ⟨rfl, H.keeps⟩
      · refine call_fn (c62 _ (by first | assumption | omega | decide | (repeat' (first | assumption | refine and_lt8 ?_ _ | refine xor_lt8 ?_ ?_ | refine or_lt8 ?_ ?_))) _) ?_
        rintro _ w6 ⟨rfl, hk⟩
        replace H := H.same hk
        clear hk
        rw [parseC_bad hp]
        rw [parse_e2 hp]
        refine H.alloc 46 (cs := cc 0 0) zero46 rfl ?_
        clear H
        intro g9 w9 H
        refine H.storeCube 0 rfl ?_
        clear H
        intro w10 H
        refine call_fn (c63 _ (by first | assumption | omega | decide | (repeat' (first | assumption | refine and_lt8 ?_ _ | refine xor_lt8 ?_ ?_ | refine or_lt8 ?_ ?_))) _) ?_
        rintro _ w11 ⟨rfl, hk⟩
        replace H := H.same hk
        clear hk
        rw [parseC_bad hp]
        rw [hp]
        refine H.alloc 46 (cs := cc 0 0) zero46 rfl ?_
        clear H
        intro g14 w14 H
        refine H.storeCube 0 rfl ?_
        clear H
        intro w15 H
        refine H.loadAll 1 rfl agg46 size46 ?_
        refine H.loadAll 0 rfl agg46 size46 ?_
        refine bin_neq46 ?_
        iterate 4 refine cond_no rfl ?_
        refine bin_neq_bool Try.underlying4 ?_
        iterate 4 refine cond_no rfl ?_
        iterate 2 refine cond_yes rfl ?_
        refine cond_no rfl ?_
        refine cond_yes rfl ?_
        iterate 3 refine cond_no rfl ?_
        refine H.loadAll 2 rfl agg46 size46 ?_
        refine call_fn (c56_a _ _ (by first | assumption | omega | decide | (repeat' (first | assumption | refine and_lt8 ?_ _ | refine xor_lt8 ?_ ?_ | refine or_lt8 ?_ ?_))) (by first | assumption | omega | decide | (repeat' (first | assumption | refine and_lt8 ?_ _ | refine xor_lt8 ?_ ?_ | refine or_lt8 ?_ ?_))) _ (by first | assumption | omega | decide | (repeat' (first | assumption | refine and_lt8 ?_ _ | refine xor_lt8 ?_ ?_ | refine or_lt8 ?_ ?_))) (by first | assumption | omega | decide | (repeat' (first | assumption | refine and_lt8 ?_ _ | refine xor_lt8 ?_ ?_ | refine or_lt8 ?_ ?_))) _) ?_
        rintro _ w36 ⟨rfl, hk⟩
        replace H := H.same hk
        clear hk
        refine cond_no rfl ?_
        refine call_fn (c62 _ (by first | assumption | omega | decide | (repeat' (first | assumption | refine and_lt8 ?_ _ | refine xor_lt8 ?_ ?_ | refine or_lt8 ?_ ?_))) _) ?_
        rintro _ w38 ⟨rfl, hk⟩
        replace H := H.same hk
        clear hk
        rw [ht1]
        rw [ht2]
        refine H.alloc 46 (cs := cc 0 0) zero46 rfl ?_
        clear H
        intro g41 w41 H
        refine H.storeCube 0 rfl ?_
        clear H
        intro w42 H
        refine H.loadAll 0 rfl agg46 size46 ?_
        refine H.loadAll 3 rfl agg46 size46 ?_
        refine bin_eql46 ?_
        iterate 3 refine cond_yes (by simp) ?_
        refine cond_yes rfl ?_
        refine call_fn (c59 _) ?_
        rintro _ w50 ⟨rfl, hk⟩
        replace H := H.same hk
        clear hk
        refine cond_yes rfl ?_
        exact ⟨rfl, H.keeps⟩
  | true =>
    have h8 : l.length ≤ 8 := by unfold parseOk at hp; simp at hp; exact hp.1
    have hpr := parse_right hp
    have hpt := text_parse hp
    have hpm : parseM l l.length < 256 := mkSet_le8 _ h8
    have hpv : parseV l l.length < 256 := mkSet_le8 _ h8
    cases hr : rightN m v n with
    | false =>
      refine H.box 46 (cv _ _) (cs := cc _ _) rfl ?_
      clear H
      intro g1 w1 H
      refine len_str Try.underlying9 ?_
      rw [hsz]
      refine cond_no (decide_eq_false (by omega)) ?_
      refine call_fn (c62 _ (by first | assumption | omega | decide | (repeat' (first | assumption | refine and_lt8 ?_ _ | refine xor_lt8 ?_ ?_ | refine or_lt8 ?_ ?_))) _) ?_
      rintro _ w5 ⟨rfl, hk⟩
      replace H := H.same hk
      clear hk
      rw [parseC_ok hp]
      rw [parse_e0 hp]
      refine H.alloc 46 (cs := cc 0 0) zero46 rfl ?_
      clear H
      intro g9 w9 H
      refine H.storeCube 0 rfl ?_
      clear H
      intro w10 H
      refine call_fn (c63 _ (by first | assumption | omega | decide | (repeat' (first | assumption | refine and_lt8 ?_ _ | refine xor_lt8 ?_ ?_ | refine or_lt8 ?_ ?_))) _) ?_
      rintro _ w11 ⟨rfl, hk⟩
      replace H := H.same hk
      clear hk
      rw [parseC_ok hp]
      rw [hp]
      refine H.alloc 46 (cs := cc 0 0) zero46 rfl ?_
      clear H
      intro g14 w14 H
      refine H.storeCube 0 rfl ?_
      clear H
      intro w15 H
      refine H.loadAll 1 rfl agg46 size46 ?_
      refine H.loadAll 0 rfl agg46 size46 ?_
      refine bin_neq46 ?_
      iterate 4 refine cond_no (by simp) ?_
      refine bin_neq_bool Try.underlying4 ?_
      refine cond_no (by simp) ?_
      iterate 9 refine cond_no rfl ?_
      refine cond_yes rfl ?_
      refine H.loadAll 1 rfl agg46 size46 ?_
      refine len_str Try.underlying9 ?_
      rw [hsz]
      refine call_fn (c56_a _ _ (by first | assumption | omega | decide | (repeat' (first | assumption | refine and_lt8 ?_ _ | refine xor_lt8 ?_ ?_ | refine or_lt8 ?_ ?_))) (by first | assumption | omega | decide | (repeat' (first | assumption | refine and_lt8 ?_ _ | refine xor_lt8 ?_ ?_ | refine or_lt8 ?_ ?_))) _ (by first | assumption | omega | decide | (repeat' (first | assumption | refine and_lt8 ?_ _ | refine xor_lt8 ?_ ?_ | refine or_lt8 ?_ ?_))) (by first | assumption | omega | decide | (repeat' (first | assumption | refine and_lt8 ?_ _ | refine xor_lt8 ?_ ?_ | refine or_lt8 ?_ ?_))) _) ?_
      rintro _ w38 ⟨rfl, hk⟩
      replace H := H.same hk
      clear hk
      rw [hpt]
      refine bin_neq_strL ?_
      iterate 3 refine cond_no (by simp) ?_
      refine cond_no rfl ?_
      refine H.loadAll 2 rfl agg46 size46 ?_
      refine call_fn (c56_b _ _ (by first | assumption | omega | decide | (repeat' (first | assumption | refine and_lt8 ?_ _ | refine xor_lt8 ?_ ?_ | refine or_lt8 ?_ ?_))) (by first | assumption | omega | decide | (repeat' (first | assumption | refine and_lt8 ?_ _ | refine xor_lt8 ?_ ?_ | refine or_lt8 ?_ ?_))) _ (by first | assumption | omega | decide | (repeat' (first | assumption | refine and_lt8 ?_ _ | refine xor_lt8 ?_ ?_ | refine or_lt8 ?_ ?_))) _) ?_
      rintro _ w46 ⟨rfl, hk⟩
      replace H := H.same hk
      clear hk
      refine cond_yes rfl ?_
      refine call_fn (c59 _) ?_
      rintro _ w48 ⟨rfl, hk⟩
      replace H := H.same hk
      clear hk
      exact ⟨rfl, H.keeps⟩
    | true =>
      obtain ⟨h0, h8', hlt, hsub⟩ := (rightN_iff hm hv).1 hr
      obtain ⟨k, rfl⟩ := Int.eq_ofNat_of_zero_le h0
      obtain ⟨ht1, ht2⟩ := parse_textC (k := k) hlt hsub (by omega)
      have hlen : (textL m v k).length < 9223372036854775808 := by rw [textL_length]; omega
      refine H.box 46 (cv _ _) (cs := cc _ _) rfl ?_
      clear H
      intro g1 w1 H
      refine len_str Try.underlying9 ?_
      rw [hsz]
      refine cond_no (decide_eq_false (by omega)) ?_
      refine call_fn (c62 _ (by first | assumption | omega | decide | (repeat' (first | assumption | refine and_lt8 ?_ _ | refine xor_lt8 ?_ ?_ | refine or_lt8 ?_ ?_))) _) ?_
      rintro _ w5 ⟨rfl, hk⟩
      replace H := H.same hk
      clear hk
      rw [parseC_ok hp]
      rw [parse_e0 hp]
      refine H.alloc 46 (cs := cc 0 0) zero46 rfl ?_
      clear H
      intro g9 w9 H
      refine H.storeCube 0 rfl ?_
      clear H
      intro w10 H
      refine call_fn (c63 _ (by first | assumption | omega | decide | (repeat' (first | assumption | refine and_lt8 ?_ _ | refine xor_lt8 ?_ ?_ | refine or_lt8 ?_ ?_))) _) ?_
      rintro _ w11 ⟨rfl, hk⟩
      replace H := H.same hk
      clear hk
      rw [parseC_ok hp]
      rw [hp]
      refine H.alloc 46 (cs := cc 0 0) zero46 rfl ?_
      clear H
      intro g14 w14 H
      refine H.storeCube 0 rfl ?_
      clear H
      intro w15 H
      refine H.loadAll 1 rfl agg46 size46 ?_
      refine H.loadAll 0 rfl agg46 size46 ?_
      refine bin_neq46 ?_
      iterate 4 refine cond_no (by simp) ?_
      refine bin_neq_bool Try.underlying4 ?_
      refine cond_no (by simp) ?_
      iterate 9 refine cond_no rfl ?_
      refine cond_yes rfl ?_
      refine H.loadAll 1 rfl agg46 size46 ?_
      refine len_str Try.underlying9 ?_
      rw [hsz]
      refine call_fn (c56_a _ _ (by first | assumption | omega | decide | (repeat' (first | assumption | refine and_lt8 ?_ _ | refine xor_lt8 ?_ ?_ | refine or_lt8 ?_ ?_))) (by first | assumption | omega | decide | (repeat' (first | assumption | refine and_lt8 ?_ _ | refine xor_lt8 ?_ ?_ | refine or_lt8 ?_ ?_))) _ (by first | assumption | omega | decide | (repeat' (first | assumption | refine and_lt8 ?_ _ | refine xor_lt8 ?_ ?_ | refine or_lt8 ?_ ?_))) (by first | assumption | omega | decide | (repeat' (first | assumption | refine and_lt8 ?_ _ | refine xor_lt8 ?_ ?_ | refine or_lt8 ?_ ?_))) _) ?_
      rintro _ w38 ⟨rfl, hk⟩
      replace H := H.same hk
      clear hk
      rw [hpt]
      refine bin_neq_strL ?_
      iterate 3 refine cond_no (by simp) ?_
      refine cond_no rfl ?_
      refine H.loadAll 2 rfl agg46 size46 ?_
      refine call_fn (c56_a _ _ (by first | assumption | omega | decide | (repeat' (first | assumption | refine and_lt8 ?_ _ | refine xor_lt8 ?_ ?_ | refine or_lt8 ?_ ?_))) (by first | assumption | omega | decide | (repeat' (first | assumption | refine and_lt8 ?_ _ | refine xor_lt8 ?_ ?_ | refine or_lt8 ?_ ?_))) _ (by first | assumption | omega | decide | (repeat' (first | assumption | refine and_lt8 ?_ _ | refine xor_lt8 ?_ ?_ | refine or_lt8 ?_ ?_))) (by first | assumption | omega | decide | (repeat' (first | assumption | refine and_lt8 ?_ _ | refine xor_lt8 ?_ ?_ | refine or_lt8 ?_ ?_))) _) ?_
      rintro _ w46 ⟨rfl, hk⟩
      replace H := H.same hk
      clear hk
      refine cond_no rfl ?_
      refine call_fn (c62 _ (by first | assumption | omega | decide | (repeat' (first | assumption | refine and_lt8 ?_ _ | refine xor_lt8 ?_ ?_ | refine or_lt8 ?_ ?_))) _) ?_
      rintro _ w48 ⟨rfl, hk⟩
      replace H := H.same hk
      clear hk
      rw [ht1]
      rw [ht2]
      refine H.alloc 46 (cs := cc 0 0) zero46 rfl ?_
      clear H
      intro g51 w51 H
      refine H.storeCube 0 rfl ?_
      clear H
      intro w52 H
      refine H.loadAll 0 rfl agg46 size46 ?_
      refine H.loadAll 3 rfl agg46 size46 ?_
      refine bin_eql46 ?_
      iterate 3 refine cond_yes (by simp) ?_
      refine cond_yes rfl ?_
      refine call_fn (c59 _) ?_
      rintro _ w60 ⟨rfl, hk⟩
      replace H := H.same hk
      clear hk
      refine cond_yes rfl ?_
      exact ⟨rfl, H.keeps⟩

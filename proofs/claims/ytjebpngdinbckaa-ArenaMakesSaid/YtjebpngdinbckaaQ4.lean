import Derived.Test.YtjebpngdinbckaaQ3
import Derived.Test.YtjebpngdinbckaaS7
/- Cubes: the document's answers, and texts. -/
namespace Go.Proofs.Ytjebpngdinbckaa
open Go.Dk
attribute [local irreducible] IntKind.wrap

theorem lits_int {m v i : Nat} (hi : i < 8) : (ints (lits m v))[i]? = some (.int .i64 (litN m v i : Int)) := by
  rw [ints_get (by rw [litsTo_length]; exact hi)]; simp [litsTo]
/-- The flags of a cube's points, of those below k. -/
def ptsF (m v n k : Nat) : List Bool := (List.range 256).map fun p => decide (p < 2 ^ n) && (decide (k ≤ p) || hasC m v p)
theorem ptsF_zero (m v n : Nat) : ptsF m v n 0 = allFlags n := by simp [ptsF, allFlags]
theorem ptsF_length (m v n k : Nat) : (ptsF m v n k).length = 256 := by simp [ptsF]
theorem ptsF_get {m v n k : Nat} (hk : k < 256) : (bls (ptsF m v n k))[k]? = some (.bool (decide (k < 2 ^ n))) := by
  rw [bls_get (by rw [ptsF_length]; exact hk)]; simp [ptsF]
theorem ptsF_set {m v n k : Nat} (hk : k < 256) : (ptsF m v n k).set k (decide (k < 2 ^ n) && hasC m v k) = ptsF m v n (k + 1) := by
  apply List.ext_getElem (by simp [ptsF])
  intro p h1 h2
  rw [List.getElem_set]
  simp only [ptsF, List.getElem_map, List.getElem_range]
  by_cases h : k = p
  · subst h
    rw [if_pos rfl, decide_eq_false (show ¬ k + 1 ≤ k by omega), Bool.false_or]
  · have : k ≤ p ↔ k + 1 ≤ p := by omega
    simp [h, this]
theorem ptsF_all (m v n : Nat) : ofFlags (ptsF m v n 256) = setOf (fun p => decide (p < 2 ^ n) && hasC m v p) := by
  refine set_ext (setOf_lt _) (setOf_lt _) fun p hp => ?_
  rw [testBit_ofFlags, testBit_setOf]
  simp only [hp, ptsF, decide_true, Bool.true_and, List.getD_eq_getElem?_getD, List.getElem?_map, List.getElem?_range, Option.map_some, Option.getD_some]
  rw [decide_eq_false (show ¬ 256 ≤ p by omega), Bool.false_or]
theorem T195 : SlT Try.prog 195 9 (.string ⟨#[]⟩) 1 16 := ⟨Try.underlying195, by kernel_rfl, rfl, by decide⟩
theorem agg9 : aggT Try.prog 9 = some false := by kernel_rfl
theorem size9 : sizeT Try.prog 9 = some 1 := by kernel_rfl
theorem lit_ch (m v i : Nat) : (#[Value.string ⟨#[48]⟩, Value.string ⟨#[49]⟩, Value.string ⟨#[45]⟩] : Array Value)[litN m v i]? = some (strV [chN m v i]) := by
  unfold litN chN strV
  cases m.testBit i <;> cases v.testBit i <;> rfl
theorem bls_set (l : List Bool) (i : Nat) (b : Bool) : bls (l.set i b) = (bls l).set i (.bool b) := by simp [bls, List.map_set]
theorem lit_set {m v i : Nat} (h : ((litN m v i : Nat) : Int) ≠ 2) : m.testBit i = true := by
  cases hb : m.testBit i
  · exact absurd (by rw [litN_two.2 hb]; rfl) h
  · rfl
theorem lit_vs {m v p i : Nat} (hm : m.testBit i = true) : ((litN m v i : Nat) : Int) = ((p / 2 ^ i % 2 : Nat) : Int) ↔ v.testBit i = p.testBit i := by
  rw [bit_mod]; unfold litN; rw [hm]
  cases v.testBit i <;> cases p.testBit i <;> simp
theorem ent57 : enters Try.prog 57 = true := by kernel_rfl
theorem c57_b (m v : Nat) (n : Int) (hn : n < 0 ∨ 8 < n) (w : World) : Fun Try.prog 57 [cv m v, .int .i64 n] w fun r w' => r = .bool false ∧ Same w w' := by
  refine fun_of_W (N := 29) Try.func57 ent57 rfl rfl rfl (by simp) ?_
  have H := Hp.start0 w
  refine H.box 46 (cv _ _) (cs := cc _ _) rfl ?_
  clear H
  intro g1 w1 H
  refine cond_dec (fun h2 => ?_) (fun h2 => ?_)
  · refine cond_yes (decide_eq_true (by assumption)) ?_
    refine cond_yes (decide_eq_true (by assumption)) ?_
    refine cond_yes rfl ?_
    exact ⟨rfl, H.keeps⟩
  · refine cond_no (decide_eq_false (by assumption)) ?_
    refine cond_no (decide_eq_false (by assumption)) ?_
    refine cond_yes (decide_eq_true (by omega)) ?_
    exact ⟨rfl, H.keeps⟩
theorem c57_a (m v : Nat) (hm : m < 256) (hv : v < 256) (n : Nat) (hn : n ≤ 8) (w : World) : Fun Try.prog 57 [cv m v, .int .i64 (n : Int)] w fun r w' => r = .bool (rightN m v n) ∧ Same w w' := by
  refine fun_of_W (N := 29) Try.func57 ent57 rfl rfl rfl (by simp) ?_
  have H := Hp.start0 w
  refine H.box 46 (cv _ _) (cs := cc _ _) rfl ?_
  clear H
  intro g1 w1 H
  iterate 3 refine cond_no rfl ?_
  refine cond_no (decide_eq_false (by omega)) ?_
  refine H.loadAll 0 rfl agg46 size46 ?_
  refine call_fn (c162 _ _ (by first | assumption | omega | decide | (repeat' (first | assumption | refine and_lt8 ?_ _ | refine xor_lt8 ?_ ?_ | refine or_lt8 ?_ ?_))) (by first | assumption | omega | decide | (repeat' (first | assumption | refine and_lt8 ?_ _ | refine xor_lt8 ?_ ?_ | refine or_lt8 ?_ ?_))) _) ?_
  rintro _ w7 ⟨A7, k7, rfl, hk⟩
  replace H := H.addNew hk
  clear hk
  refine loop_rule (γ := Nat) _ rfl (fun i => [(6, .int .i64 (i : Int))])
    (fun i w' => (n ≤ i ∧ i ≤ 8 ∧ ∀ j, n ≤ j → j < i → m.testBit j = false) ∧ Hp w (fun _ => False) w' [own 3 1 (.slice A7 8 k7) 8 (ints (lits m v)), blk g1 46 (cc m v)] []) (fun i => 8 - i) n ⟨rfl, trivial⟩ ⟨⟨by omega, by omega, by intro j hj; omega⟩, H⟩ ?_
  clear H
  rintro i u w8 ⟨⟨hni, hi, hall⟩, H⟩
  refine cond_dec (fun h2 => ?_) (fun h2 => ?_)
  · (obtain ⟨g3, rfl⟩ := H.ownA 0 rfl (by omega))
    refine idxAddr_sl Try.underlying32 (s := 1) (by kernel_rfl) _ rfl (by first | omega | decide | (simp only [IntKind.wrap_i64]; omega) | (simp; done) | (simp; omega)) (o' := _) (by rw [Nat.zero_add, Nat.mul_one]) ?_
    refine H.loadOwn 0 rfl agg3 (lits_int (by omega)) ?_
    refine cond_bne (fun h6 => ?_) (fun h6 => ?_)
    · refine ⟨congrArg Value.bool ?_, H.keeps⟩
      have hb : m.testBit i = true := by
        cases hb : m.testBit i
        · exact absurd (by rw [litN_two.2 hb]; rfl) h6
        · rfl
      symm
      rw [Bool.eq_false_iff]
      intro hr
      have := ((rightN_iff hm hv).1 hr).2.2.1
      rw [Int.toNat_natCast] at this
      rw [bits_of_lt_pow this hni] at hb
      cases hb
    · refine ⟨i + 1, by omega, ⟨up (by omega), trivial⟩, ⟨by omega, by omega, fun j hj hj' => ?_⟩, H⟩
      by_cases hji : j = i
      · subst hji; exact litN_two.1 (by exact_mod_cast h6)
      · exact hall j hj (by omega)
  · refine H.draw fol (by kernel_rfl) ?_
    clear H
    intro w12 H
    refine call_fn (c163 (lits m v) (by rw [litsTo_length]; omega) (fun x hx => by obtain ⟨i, _, rfl⟩ := List.mem_map.1 hx; exact litN_le m v i) _ _ _ (own_Sl (H.get 0 rfl))) ?_
    rintro _ w13 ⟨rfl, hk⟩
    rw [cubeM_lits hm, cubeV_lits hm hv]
    replace H := H.same hk
    clear hk
    refine ⟨.inl H, ?_⟩
    refine quiet _ (fun w H => H.loadAll 1 rfl agg46 size46 ⟨rfl, rfl⟩) ?_
    refine quiet _ (fun w H => bin_eql46 ⟨rfl, rfl⟩) ?_
    refine ⟨congrArg Value.bool ?_, H.keeps⟩
    rw [beq_self_eq_true, Bool.true_and]
    have hlt : m < 2 ^ n := lt_pow_of_bits hm fun j hj hj' => hall j hj (by omega)
    rw [Bool.eq_iff_iff, rightN_iff hm hv, beq_iff_eq, Int.toNat_natCast]
    exact ⟨fun h => ⟨by omega, by omega, hlt, h⟩, fun h => h.2.2.2⟩
theorem ent164 : enters Try.prog 164 = true := by kernel_rfl
theorem c164 (m v : Nat) (hm : m < 256) (hv : v < 256) (p : Nat) (hp : p < 9223372036854775808) (w : World) : Fun Try.prog 164 [cv m v, .int .i64 (p : Int)] w fun r w' => r = .bool (hasC m v p) ∧ Same w w' := by
  refine fun_of_W (N := 28) Try.func164 ent164 rfl rfl rfl (by simp) ?_
  have H := Hp.start0 w
  refine H.box 46 (cv _ _) (cs := cc _ _) rfl ?_
  clear H
  intro g1 w1 H
  refine H.loadAll 0 rfl agg46 size46 ?_
  refine call_fn (c162 _ _ (by first | assumption | omega | decide | (repeat' (first | assumption | refine and_lt8 ?_ _ | refine xor_lt8 ?_ ?_ | refine or_lt8 ?_ ?_))) (by first | assumption | omega | decide | (repeat' (first | assumption | refine and_lt8 ?_ _ | refine xor_lt8 ?_ ?_ | refine or_lt8 ?_ ?_))) _) ?_
  rintro _ w3 ⟨A3, k3, rfl, hk⟩
  replace H := H.addNew hk
  clear hk
  refine loop_rule (γ := Nat) _ rfl (fun i => [(6, .int .i64 (i : Int))])
    (fun i w' => (i ≤ 8 ∧ ∀ j, j < i → (!m.testBit j || (v.testBit j == p.testBit j)) = true) ∧ Hp w (fun _ => False) w' [own 3 1 (.slice A3 8 k3) 8 (ints (lits m v)), blk g1 46 (cc m v)] []) (fun i => 8 - i) 0 ⟨rfl, trivial⟩ ⟨⟨by omega, by intro j hj; omega⟩, H⟩ ?_
  clear H
  rintro i u w8 ⟨⟨hi, hall⟩, H⟩
  refine cond_dec (fun h2 => ?_) (fun h2 => ?_)
  · refine H.draw fol (by kernel_rfl) ?_
    clear H
    intro w4 H
    (obtain ⟨g5, rfl⟩ := H.ownA 0 rfl (by omega))
    refine quiet _ (fun w H => idxAddr_sl Try.underlying32 (s := 1) (by kernel_rfl) _ rfl (by first | omega | decide | (simp only [IntKind.wrap_i64]; omega) | (rw [bls, List.length_map]; omega) | (rw [bytesV_length]; omega) | (rw [ints_length]; omega) | (simp; done) | (simp; omega)) (o' := _) (by rw [Nat.zero_add, Nat.mul_one]) ⟨rfl, rfl⟩) ?_
    refine quiet _ (fun w H => H.loadOwn 0 rfl agg3 (lits_int (by omega)) ⟨rfl, rfl⟩) ?_
    refine cond_bne (fun h9 => ?_) (fun h9 => ?_)
    · refine cond_yes (bne_iff_ne.2 (by omega)) ?_
      refine cond_yes (bne_iff_ne.2 (by omega)) ?_
      refine quiet _ (fun w H => idxAddr_sl Try.underlying32 (s := 1) (by kernel_rfl) _ rfl (by first | omega | decide | (simp only [IntKind.wrap_i64]; omega) | (rw [bls, List.length_map]; omega) | (rw [bytesV_length]; omega) | (rw [ints_length]; omega) | (simp; done) | (simp; omega)) (o' := _) (by rw [Nat.zero_add, Nat.mul_one]) ⟨rfl, rfl⟩) ?_
      refine cond_yes (bne_iff_ne.2 (by omega)) ?_
      refine quiet _ (fun w H => H.loadOwn 0 rfl agg3 (lits_int (by omega)) ⟨rfl, rfl⟩) ?_
      iterate 3 refine cond_yes (bne_iff_ne.2 (by omega)) ?_
      refine call_fn (c48 _ _ (by first | assumption | omega | decide | (repeat' (first | assumption | refine and_lt8 ?_ _ | refine xor_lt8 ?_ ?_ | refine or_lt8 ?_ ?_))) (by first | assumption | omega | decide | (repeat' (first | assumption | refine and_lt8 ?_ _ | refine xor_lt8 ?_ ?_ | refine or_lt8 ?_ ?_))) _) ?_
      rintro _ w18 ⟨rfl, hk⟩
      replace H := H.same hk
      clear hk
      refine ⟨.inl H, ?_⟩
      iterate 2 refine cond_yes (bne_iff_ne.2 (by omega)) ?_
      refine cond_bne (fun h22 => ?_) (fun h22 => ?_)
      · refine ⟨congrArg Value.bool ?_, H.keeps⟩
        have hmb := lit_set h9
        have hvb := mt (lit_vs (v := v) (p := p) hmb).2 h22
        symm
        rw [Bool.eq_false_iff]
        intro hc
        rw [hasC, List.all_eq_true] at hc
        have := hc i (List.mem_range.2 (by omega))
        rw [hmb] at this
        exact hvb (by simpa using this)
      · have hmb := lit_set h9
        refine ⟨i + 1, by omega, ⟨up (by omega), trivial⟩, ⟨by omega, fun j hj => ?_⟩, H⟩
        by_cases hji : j = i
        · subst hji; rw [(lit_vs hmb).1 h22]; simp
        · exact hall j (by omega)
    · refine cond_no (bne_eq_false_iff_eq.2 (by omega)) ?_
      iterate 7 refine cond_no (bne_eq_false_iff_eq.2 (by omega)) ?_
      refine cond_no rfl ?_
      have hmb := litN_two.1 (show litN m v i = 2 by exact_mod_cast h9)
      refine ⟨i + 1, by omega, ⟨up (by omega), trivial⟩, ⟨by omega, fun j hj => ?_⟩, H⟩
      by_cases hji : j = i
      · subst hji; rw [hmb]; rfl
      · exact hall j (by omega)
  · refine ⟨congrArg Value.bool ?_, H.keeps⟩
    symm
    rw [hasC, List.all_eq_true]
    intro j hj
    exact hall j (by have := List.mem_range.1 hj; omega)
def refP (m v n : Nat) : Nat := setOf fun p => decide (p < 2 ^ n) && hasC m v p
theorem ent60 : enters Try.prog 60 = true := by kernel_rfl
theorem c60 (m v : Nat) (hm : m < 256) (hv : v < 256) (n : Nat) (hn : n ≤ 8) (w : World) : Fun Try.prog 60 [cv m v, .int .i64 (n : Int)] w fun r w' => r = sv (refP m v n) ∧ Same w w' := by
  refine fun_of_W (N := 27) Try.func60 ent60 rfl rfl rfl (by simp) ?_
  have H := Hp.start0 w
  refine H.box 46 (cv _ _) (cs := cc _ _) rfl ?_
  clear H
  intro g1 w1 H
  refine H.alloc 24 (cs := sc 0) zero24 sc_zero ?_
  clear H
  intro g2 w2 H
  refine call_fn (c39 _ (by first | assumption | omega | decide | (repeat' (first | assumption | refine and_lt8 ?_ _ | refine xor_lt8 ?_ ?_ | refine or_lt8 ?_ ?_))) _) ?_
  rintro _ w3 ⟨A3, k3, rfl, hk⟩
  replace H := H.addNew hk
  clear hk
  have hN : 2 ^ n ≤ 256 := Nat.le_trans (Nat.pow_le_pow_right (by decide) hn) (show 2 ^ 8 ≤ 256 by decide)
  refine loop_rule (γ := Nat) _ rfl (fun i => [(6, .int .i64 (i : Int))])
    (fun i w' => i ≤ 256 ∧ Hp w (fun _ => False) w' [own 4 1 (.slice A3 256 k3) 256 (bls (ptsF m v n i)), blk g2 24 (sc 0), blk g1 46 (cc m v)] []) (fun i => 256 - i) 0 ⟨rfl, trivial⟩ ⟨by omega, by rw [ptsF_zero]; exact H⟩ ?_
  clear H
  rintro i u w8 ⟨hi, H⟩
  have hL := ptsF_length m v n i
  refine cond_dec (fun h4 => ?_) (fun h4 => ?_)
  · (obtain ⟨g5, rfl⟩ := H.ownA 0 rfl (by omega))
    refine idxAddr_sl Try.underlying29 (s := 1) (by kernel_rfl) _ rfl (by first | omega | decide | (simp only [IntKind.wrap_i64]; omega) | (simp; done) | (simp; omega)) (o' := _) (by rw [Nat.zero_add, Nat.mul_one]) ?_
    refine H.loadOwn 0 rfl agg4 (ptsF_get (by omega)) ?_
    refine cond_dec (fun h9 => ?_) (fun h9 => ?_)
    · refine H.loadAll 2 rfl agg46 size46 ?_
      iterate 2 refine cond_yes (decide_eq_true (by assumption)) ?_
      refine call_fn (c164 _ _ (by first | assumption | omega | decide | (repeat' (first | assumption | refine and_lt8 ?_ _ | refine xor_lt8 ?_ ?_ | refine or_lt8 ?_ ?_))) (by first | assumption | omega | decide | (repeat' (first | assumption | refine and_lt8 ?_ _ | refine xor_lt8 ?_ ?_ | refine or_lt8 ?_ ?_))) _ (by first | assumption | omega | decide | (repeat' (first | assumption | refine and_lt8 ?_ _ | refine xor_lt8 ?_ ?_ | refine or_lt8 ?_ ?_))) _) ?_
      rintro _ w13 ⟨rfl, hk⟩
      replace H := H.same hk
      clear hk
      refine cond_yes (decide_eq_true (by assumption)) ?_
      refine idxAddr_sl Try.underlying29 (s := 1) (by kernel_rfl) _ rfl (by first | omega | decide | (simp only [IntKind.wrap_i64]; omega) | (simp; done) | (simp; omega)) (o' := _) (by rw [Nat.zero_add, Nat.mul_one]) ?_
      refine H.storeOwn 0 rfl size4 (by first | omega | decide | (simp only [IntKind.wrap_i64]; omega) | (rw [bls, List.length_map]; omega) | (rw [bytesV_length]; omega) | (rw [ints_length]; omega) | (simp; done) | (simp; omega)) rfl ?_
      clear H
      intro w6 H
      refine ⟨i + 1, by omega, ⟨up (by omega), trivial⟩, by omega, ?_⟩
      rw [← ptsF_set (by omega), decide_eq_true h9, Bool.true_and, bls_set]
      exact H
    · refine cond_no (decide_eq_false (by assumption)) ?_
      iterate 2 refine cond_no (decide_eq_false (by assumption)) ?_
      refine idxAddr_sl Try.underlying29 (s := 1) (by kernel_rfl) _ rfl (by first | omega | decide | (simp only [IntKind.wrap_i64]; omega) | (simp; done) | (simp; omega)) (o' := _) (by rw [Nat.zero_add, Nat.mul_one]) ?_
      refine H.storeOwn 0 rfl size4 (by first | omega | decide | (simp only [IntKind.wrap_i64]; omega) | (rw [bls, List.length_map]; omega) | (rw [bytesV_length]; omega) | (rw [ints_length]; omega) | (simp; done) | (simp; omega)) rfl ?_
      clear H
      intro w6 H
      refine ⟨i + 1, by omega, ⟨up (by omega), trivial⟩, by omega, ?_⟩
      rw [← ptsF_set (by omega), decide_eq_false h9, Bool.false_and, bls_set]
      exact H
  · refine call_fn (c38 (ptsF m v n i) hL _ _ _ (own_Sl (H.get 0 rfl))) ?_
    rintro _ w15 ⟨rfl, hk⟩
    replace H := H.same hk
    clear hk
    obtain rfl : i = 256 := by omega
    rw [ptsF_all]
    refine H.storeSet 1 rfl ?_
    clear H
    intro w5 H
    refine H.loadAll 1 rfl agg24 size24 ?_
    refine ⟨rfl, ?_⟩
    exact ⟨rfl, H.keeps⟩
theorem ent61 : enters Try.prog 61 = true := by kernel_rfl
theorem c61 (m v : Nat) (hm : m < 256) (hv : v < 256) (n : Nat) (hn : n ≤ 8) (w : World) : Fun Try.prog 61 [cv m v, .int .i64 (n : Int)] w fun r w' => r = strV (textL m v n) ∧ Same w w' := by
  refine fun_of_W (N := 25) Try.func61 ent61 rfl rfl rfl (by simp) ?_
  have H := Hp.start0 w
  refine H.box 46 (cv _ _) (cs := cc _ _) rfl ?_
  clear H
  intro g1 w1 H
  refine H.loadAll 0 rfl agg46 size46 ?_
  refine call_fn (c162 _ _ (by first | assumption | omega | decide | (repeat' (first | assumption | refine and_lt8 ?_ _ | refine xor_lt8 ?_ ?_ | refine or_lt8 ?_ ?_))) (by first | assumption | omega | decide | (repeat' (first | assumption | refine and_lt8 ?_ _ | refine xor_lt8 ?_ ?_ | refine or_lt8 ?_ ?_))) _) ?_
  rintro _ w3 ⟨A3, k3, rfl, hk⟩
  replace H := H.addNew hk
  clear hk
  refine loop_rule (γ := Nat) _ rfl (fun i => [(7, .int .i64 (i : Int)), (5, strV (textL m v i))])
    (fun i w' => i ≤ n ∧ Hp w (fun _ => False) w' [own 3 1 (.slice A3 8 k3) 8 (ints (lits m v)), blk g1 46 (cc m v)] []) (fun i => n - i) 0 ⟨rfl, rfl, trivial⟩ ⟨by omega, H⟩ ?_
  clear H
  rintro i u w8 ⟨hi, H⟩
  have hL := litsTo_length m v 8
  refine cond_dec (fun h2 => ?_) (fun h2 => ?_)
  · refine H.buildSl T195 (cs := #[.string ⟨#[48]⟩, .string ⟨#[49]⟩, .string ⟨#[45]⟩]) (by decide) (by decide) (by kernel_rfl) ?_
    clear H
    intro g9 w9 H
    have hle := litN_le m v i
    (obtain ⟨g4, rfl⟩ := H.ownA 1 rfl (by omega))
    refine idxAddr_sl Try.underlying32 (s := 1) (by kernel_rfl) _ rfl (by first | omega | decide | (simp only [IntKind.wrap_i64]; omega) | (rw [bls, List.length_map]; omega) | (rw [bytesV_length]; omega) | (rw [ints_length]; omega) | (simp; done) | (simp; omega)) (o' := _) (by rw [Nat.zero_add, Nat.mul_one]) ?_
    refine H.loadOwn 1 rfl agg3 (lits_int (by omega)) ?_
    refine idxAddr_sl Try.underlying195 (s := 1) (by kernel_rfl) _ rfl (by first | omega | decide | (simp only [IntKind.wrap_i64]; omega) | (rw [bls, List.length_map]; omega) | (rw [bytesV_length]; omega) | (rw [ints_length]; omega) | (simp; done) | (simp; omega)) (o' := _) (by rw [Nat.zero_add, Nat.mul_one]) ?_
    refine H.load 0 rfl agg9 (lit_ch m v i) ?_
    refine bin_add_str (by simp only [textL_length, List.length_cons, List.length_nil]; omega) ?_
    refine ⟨i + 1, by omega, ⟨up (by omega), by rw [textL_succ]; rfl, trivial⟩, by omega, H.forget⟩
  · obtain rfl : i = n := by omega
    exact ⟨rfl, H.keeps⟩
theorem c57 (m v : Nat) (hm : m < 256) (hv : v < 256) (n : Int) (w : World) : Fun Try.prog 57 [cv m v, .int .i64 n] w fun r w' => r = .bool (rightN m v n) ∧ Same w w' := by
  by_cases h : n < 0 ∨ 8 < n
  · have e : rightN m v n = false := by unfold rightN; rcases h with h | h <;> simp <;> omega
    rw [e]; exact c57_b m v n h w
  · obtain ⟨k, rfl⟩ := Int.eq_ofNat_of_zero_le (show 0 ≤ n by omega)
    exact c57_a m v hm hv k (by omega) w

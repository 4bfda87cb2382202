import Derived.Test.YtjebpngdinbckaaPart8
/- Lemmas, part 9: what the proof of the row uses. -/
section
/- Diagrams composed: the references. -/
namespace Go.Proofs.Ytjebpngdinbckaa
open Go.Dk
attribute [local irreducible] IntKind.wrap

/-- A point with an input turned so. -/
def toP (p i : Nat) (b : Bool) : Nat := if p.testBit i = b then p else p ^^^ 2 ^ i
theorem tb_toP (p i : Nat) (b : Bool) (j : Nat) : (toP p i b).testBit j = if j = i then b else p.testBit j := by
  unfold toP
  split
  · rename_i h
    split
    · rename_i e; rw [e, h]
    · rfl
  · rename_i h
    rw [Nat.testBit_xor, Nat.testBit_two_pow]
    split
    · rename_i e
      subst e
      rw [decide_eq_true rfl]
      cases hb : p.testBit j <;> rw [hb] at h <;> cases b <;> first | rfl | exact absurd rfl h
    · rename_i e
      rw [decide_eq_false (Ne.symm e), Bool.xor_false]
theorem toP_lt {p i n : Nat} (b : Bool) (hp : p < 2 ^ n) (hi : i < n) : toP p i b < 2 ^ n := by
  unfold toP; split
  · exact hp
  · exact flip_lt hp hi
theorem toP_lt8 {p i : Nat} (b : Bool) (hp : p < 256) (hi : i < 8) : toP p i b < 256 := toP_lt (n := 8) b hp hi
/-- A point with the inputs of a cube below k turned so. -/
def fixP (m v p : Nat) : Nat → Nat
  | 0 => p
  | k + 1 => if m.testBit k then toP (fixP m v p k) k (v.testBit k) else fixP m v p k
theorem tb_fixP (m v p : Nat) : ∀ k j, (fixP m v p k).testBit j = if j < k ∧ m.testBit j = true then v.testBit j else p.testBit j
  | 0, j => by simp [fixP]
  | k + 1, j => by
    rw [fixP]
    by_cases hm : m.testBit k = true
    · rw [if_pos hm, tb_toP, tb_fixP m v p k j]
      by_cases hj : j = k
      · subst hj; rw [if_pos rfl, if_pos ⟨by omega, hm⟩]
      · rw [if_neg hj]
        by_cases h2 : j < k ∧ m.testBit j = true
        · rw [if_pos h2, if_pos ⟨by omega, h2.2⟩]
        · rw [if_neg h2, if_neg fun h => h2 ⟨by omega, h.2⟩]
    · rw [if_neg hm, tb_fixP m v p k j]
      by_cases h2 : j < k ∧ m.testBit j = true
      · rw [if_pos h2, if_pos ⟨by omega, h2.2⟩]
      · rw [if_neg h2, if_neg fun h => h2 ⟨by
          have : j ≠ k := fun e => hm (e ▸ h.2)
          omega, h.2⟩]
theorem fixP_lt (m v : Nat) {p n : Nat} (hp : p < 2 ^ n) : ∀ k, k ≤ n → fixP m v p k < 2 ^ n
  | 0, _ => hp
  | k + 1, h => by
    rw [fixP]
    have := fixP_lt m v hp k (by omega)
    split
    · exact toP_lt _ this (by omega)
    · exact this
/-- Flags of which those below k are done. -/
def upF (f g : Nat → Bool) (k : Nat) : List Bool := (List.range 256).map fun p => if p < k then f p else g p
theorem upF_length (f g : Nat → Bool) (k : Nat) : (upF f g k).length = 256 := by simp [upF]
theorem upF_zero (n : Nat) (f : Nat → Bool) : upF f (fun p => decide (p < 2 ^ n)) 0 = allFlags n := by simp [upF, allFlags]
theorem upF_get {f g : Nat → Bool} {k : Nat} (hk : k < 256) : (bls (upF f g k))[k]? = some (.bool (g k)) := by
  rw [bls_get (by rw [upF_length]; exact hk)]; simp [upF]
theorem upF_set {f g : Nat → Bool} {k : Nat} (hk : k < 256) : (upF f g k).set k (f k) = upF f g (k + 1) := by
  apply List.ext_getElem (by simp [upF])
  intro p h1 h2
  rw [List.getElem_set]
  simp only [upF, List.getElem_map, List.getElem_range]
  by_cases h : k = p
  · subst h
    rw [if_pos rfl, if_pos (by omega)]
  · have : p < k ↔ p < k + 1 := by omega
    simp [h, this]
theorem upF_all (f g : Nat → Bool) : ofFlags (upF f g 256) = setOf f := by
  refine set_ext (setOf_lt _) (setOf_lt _) fun p hp => ?_
  rw [testBit_ofFlags, testBit_setOf]
  simp only [hp, upF, decide_true, Bool.true_and, List.getD_eq_getElem?_getD, List.getElem?_map, List.getElem?_range, Option.map_some, Option.getD_some, if_true]
theorem ent220 : enters Try.prog 220 = true := by kernel_rfl
theorem c220 (n : Nat) (hn : n ≤ 61) (w : World) : Fun Try.prog 220 [.int .i64 (n : Int)] w fun v w' => v = .int .i64 ((2 ^ n : Nat) : Int) ∧ Same w w' := by
  refine fun_of_W (N := 13) Try.func220 ent220 rfl rfl rfl (by simp) ?_
  refine loop_rule (γ := Nat) _ rfl (fun i => [(4, .int .i64 (i : Int)), (3, .int .i64 ((2 ^ i : Nat) : Int))]) (fun i w' => i ≤ n ∧ w' = w) (fun i => n - i) 0 ⟨rfl, rfl, trivial⟩ ⟨by omega, rfl⟩ ?_
  rintro i u w' ⟨hi, rfl⟩
  refine cond_split (fun h => ?_) (fun h => ?_)
  · have hlt : i < n := by have := of_decide_eq_true h; omega
    refine ⟨i + 1, by omega, ⟨up (by omega), congrArg (Value.int .i64) ?_, trivial⟩, by omega, rfl⟩
    have h1 : 2 ^ (i + 1) ≤ 2 ^ 61 := Nat.pow_le_pow_right (by decide) (by omega)
    have h2 : 2 ^ (i + 1) = 2 ^ i * 2 := Nat.pow_succ ..
    rw [h2] at h1 ⊢
    generalize 2 ^ i = q at *
    rw [wrap_i64_in (by omega) (by omega)]; omega
  · have : i = n := by have := of_decide_eq_false h; omega
    subst this
    exact ⟨rfl, Keeps.refl _ _⟩
theorem ent209 : enters Try.prog 209 = true := by kernel_rfl
theorem c209 (p i : Nat) (x : Int) (b : Bool) (hx : x = ((if b then 1 else 0 : Nat) : Int)) (hp : p < 256) (hi : i < 8) (w : World) : Fun Try.prog 209 [.int .i64 (p : Int), .int .i64 (i : Int), .int .i64 x] w fun v w' => v = .int .i64 ((toP p i b : Nat) : Int) ∧ Same w w' := by
  refine fun_of_W (N := 17) Try.func209 ent209 rfl rfl rfl (by simp) ?_
  have H := Hp.start0 w
  refine call_fn (c48 p i (by omega) (by omega) _) ?_
  rintro _ w1 ⟨rfl, hk⟩
  replace H := H.same hk
  clear hk
  refine call_fn (c220 i (by omega) _) ?_
  rintro _ w2 ⟨rfl, hk⟩
  replace H := H.same hk
  clear hk
  refine ⟨congrArg (Value.int .i64) ?_, H.keeps⟩
  subst hx
  have h2 : 2 ^ i ≤ 2 ^ 7 := Nat.pow_le_pow_right (by decide) (by omega)
  rw [bit_mod]
  unfold toP
  have hup := fun h => flip_up (p := p) (i := i) h
  have hdn := fun h => flip_down (p := p) (i := i) h
  generalize 2 ^ i = k at *
  have e0 : IntKind.i64.wrap 0 = 0 := wrap_i64_in (by omega) (by omega)
  have e1 : IntKind.i64.wrap 1 = 1 := wrap_i64_in (by omega) (by omega)
  have e2 : IntKind.i64.wrap (-1) = -1 := wrap_i64_in (by omega) (by omega)
  have e3 : IntKind.i64.wrap (k : Int) = k := wrap_i64_in (by omega) (by omega)
  have e4 : IntKind.i64.wrap (-(k : Int)) = -k := wrap_i64_in (by omega) (by omega)
  have e5 : IntKind.i64.wrap (p : Int) = p := wrap_i64_in (by omega) (by omega)
  cases hb : p.testBit i with
  | false =>
    have := hup hb
    have e6 : IntKind.i64.wrap ((p : Int) + k) = p + k := wrap_i64_in (by omega) (by omega)
    cases b
    · simp [e0, e5]
    · simp [e1, e3, e6]; omega
  | true =>
    have := hdn hb
    have e6 : IntKind.i64.wrap ((p : Int) + -k) = p + -k := wrap_i64_in (by omega) (by omega)
    cases b
    · simp [e2, e4, e6]; omega
    · simp [e0, e5]
theorem ent151 : enters Try.prog 151 = true := by kernel_rfl
theorem c151 (h i : Nat) (hh : h < 256) (hi : i ≤ 62) (w : World) : Fun Try.prog 151 [.int .u8 (h : Int), .int .i64 (i : Int)] w fun v w' => v = .bool (h.testBit i) ∧ Same w w' := by
  refine fun_of_W (N := 10) Try.func151 ent151 rfl rfl rfl (by simp) ?_
  have H := Hp.start0 w
  refine conv_i64 (by kernel_rfl) Try.underlying3 (by omega) (by omega) ?_
  refine call_fn (c48 h i (by omega) hi _) ?_
  rintro _ w1 ⟨rfl, hk⟩
  replace H := H.same hk
  refine ⟨congrArg Value.bool ?_, H.keeps⟩
  exact div_pow_mod h i
/-- A set of which an input is turned by another set. -/
def putN (s n i t : Nat) : Nat := setOf fun p => decide (p < 2 ^ n) && s.testBit (toP p i (t.testBit p))
def fixN (s n m v : Nat) : Nat := setOf fun p => decide (p < 2 ^ n) && s.testBit (fixP m v p n)
theorem ent149 : enters Try.prog 149 = true := by kernel_rfl
theorem c149 (s n i t : Nat) (hn : n ≤ 8) (hi : i < n) (w : World) : Fun Try.prog 149 [sv s, .int .i64 (n : Int), .int .i64 (i : Int), sv t] w fun v w' => v = sv (putN s n i t) ∧ Same w w' := by
  refine fun_of_W (N := 46) Try.func149 ent149 rfl rfl rfl (by simp) ?_
  have H := Hp.start0 w
  refine H.box 24 (sv s) (cs := sc s) rfl ?_
  clear H
  intro g4 w1 H
  refine H.box 24 (sv t) (cs := sc t) rfl ?_
  clear H
  intro g7 w2 H
  refine H.alloc 24 (cs := sc 0) zero24 sc_zero ?_
  clear H
  intro g8 w3 H
  refine cut_rule (γ := Nat × Nat × Nat × Nat) _ rfl (fun (g9, d9, g10, d10) => [(9, .slice (some ⟨g9, 0, none⟩) 256 d9), (10, .slice (some ⟨g10, 0, none⟩) 256 d10)]) (fun (g9, d9, g10, d10) w' => Hp w (fun _ => False) w' [own 4 1 (.slice (some ⟨g10, 0, none⟩) 256 d10) 256 (bls (flagsN t)), own 4 1 (.slice (some ⟨g9, 0, none⟩) 256 d9) 256 (bls (flagsN s)), blk g8 24 (sc 0)] []) ?_ ?_
  · refine H.draw fol (by kernel_rfl) ?_
    clear H
    intro w5 H
    refine quiet _ (fun w H => H.loadAll 2 rfl agg24 size24 ⟨rfl, rfl⟩) ?_
    refine call_fn (c40 _ _) ?_
    rintro _ w9 ⟨A9, k9, rfl, hk⟩
    replace H := H.addNew hk
    clear hk
    refine ⟨.inl H.forget, ?_⟩
    refine quiet _ (fun w H => H.loadAll 1 rfl agg24 size24 ⟨rfl, rfl⟩) ?_
    refine call_fn (c40 _ _) ?_
    rintro _ w10 ⟨A10, k10, rfl, hk⟩
    replace H := H.addNew hk
    clear hk
    refine ⟨.inl H.forget.forget, ?_⟩
    obtain ⟨g9, rfl⟩ := H.ownA 1 rfl (by omega)
    obtain ⟨g10, rfl⟩ := H.ownA 0 rfl (by omega)
    exact ⟨(g9, k9, g10, k10), ⟨rfl, rfl, trivial⟩, H.takeN 3⟩
  clear H
  rintro ⟨g9, d9, g10, d10⟩ u w4 H
  replace H : Hp _ _ _ _ _ := H
  refine cut_rule (γ := Nat × Nat) _ rfl (fun (g11, d11) => [(11, .slice (some ⟨g11, 0, none⟩) 256 d11)]) (fun (g11, d11) w' => Hp w (fun _ => False) w' [own 4 1 (.slice (some ⟨g11, 0, none⟩) 256 d11) 256 (bls (allFlags n)), own 4 1 (.slice (some ⟨g10, 0, none⟩) 256 d10) 256 (bls (flagsN t)), own 4 1 (.slice (some ⟨g9, 0, none⟩) 256 d9) 256 (bls (flagsN s)), blk g8 24 (sc 0)] []) ?_ ?_
  · refine call_fn (c39 n hn _) ?_
    rintro _ w5 ⟨A, d, rfl, hk⟩
    replace H := H.addNew hk
    obtain ⟨g11, rfl⟩ := H.ownA 0 rfl (by omega)
    exact ⟨(g11, d), ⟨rfl, trivial⟩, H⟩
  clear H
  rintro ⟨g11, d11⟩ u w5 H
  replace H : Hp _ _ _ _ _ := H
  have hN : 2 ^ n ≤ 256 := pow_le_256 hn
  refine cut_rule (γ := Unit) _ rfl (fun _ => []) (fun _ w' => Hp w (fun _ => False) w' [own 4 1 (.slice (some ⟨g11, 0, none⟩) 256 d11) 256 (bls (upF (fun p => decide (p < 2 ^ n) && s.testBit (toP p i (t.testBit p))) (fun p => decide (p < 2 ^ n)) 256)), own 4 1 (.slice (some ⟨g10, 0, none⟩) 256 d10) 256 (bls (flagsN t)), own 4 1 (.slice (some ⟨g9, 0, none⟩) 256 d9) 256 (bls (flagsN s)), blk g8 24 (sc 0)] []) ?_ ?_
  · refine loop_rule (γ := Nat) _ rfl (fun k => [(12, .int .i64 (k : Int))])
      (fun k w' => k ≤ 256 ∧ Hp w (fun _ => False) w' [own 4 1 (.slice (some ⟨g11, 0, none⟩) 256 d11) 256 (bls (upF (fun p => decide (p < 2 ^ n) && s.testBit (toP p i (t.testBit p))) (fun p => decide (p < 2 ^ n)) k)), own 4 1 (.slice (some ⟨g10, 0, none⟩) 256 d10) 256 (bls (flagsN t)), own 4 1 (.slice (some ⟨g9, 0, none⟩) 256 d9) 256 (bls (flagsN s)), blk g8 24 (sc 0)] []) (fun k => 256 - k) 0 ⟨rfl, trivial⟩ ⟨by omega, by rw [upF_zero]; exact H⟩ ?_
    clear H
    rintro k u w6 ⟨hk, H⟩
    replace H : Hp _ _ _ _ _ := H
    refine cond_dec (fun h7 => ?_) (fun h7 => ?_)
    · have hlt := fun b => toP_lt8 (p := k) (i := i) b (by omega) (by omega)
      have hfin : ∀ w2 b, b = (decide (k < 2 ^ n) && s.testBit (toP k i (t.testBit k))) → Hp w (fun _ => False) w2 [own 4 1 (.slice (some ⟨g11, 0, none⟩) 256 d11) 256 ((bls (upF (fun p => decide (p < 2 ^ n) && s.testBit (toP p i (t.testBit p))) (fun p => decide (p < 2 ^ n)) k)).set k (.bool b)), own 4 1 (.slice (some ⟨g10, 0, none⟩) 256 d10) 256 (bls (flagsN t)), own 4 1 (.slice (some ⟨g9, 0, none⟩) 256 d9) 256 (bls (flagsN s)), blk g8 24 (sc 0)] [] →
          Hp w (fun _ => False) w2 [own 4 1 (.slice (some ⟨g11, 0, none⟩) 256 d11) 256 (bls (upF (fun p => decide (p < 2 ^ n) && s.testBit (toP p i (t.testBit p))) (fun p => decide (p < 2 ^ n)) (k + 1))), own 4 1 (.slice (some ⟨g10, 0, none⟩) 256 d10) 256 (bls (flagsN t)), own 4 1 (.slice (some ⟨g9, 0, none⟩) 256 d9) 256 (bls (flagsN s)), blk g8 24 (sc 0)] [] := fun w2 b hb H => by
        subst hb
        rwa [← bls_set, upF_set (f := fun p => decide (p < 2 ^ n) && s.testBit (toP p i (t.testBit p))) (by omega)] at H
      refine idxAddr_sl Try.underlying29 (s := 1) (by kernel_rfl) _ rfl (by first | omega | decide | (simp only [IntKind.wrap_i64]; omega) | (rw [bls, List.length_map]; omega) | (rw [bytesV_length]; omega) | (rw [ints_length]; omega) | (simp; done) | (simp; omega)) (o' := _) (by rw [Nat.zero_add, Nat.mul_one]) ?_
      refine H.loadOwn 1 rfl agg4 (flagsN_get (by omega)) ?_
      refine cond_split (fun h12 => ?_) (fun h12 => ?_)
      · refine idxAddr_sl Try.underlying29 (s := 1) (by kernel_rfl) _ rfl (by first | omega | decide | (simp only [IntKind.wrap_i64]; omega) | (rw [bls, List.length_map]; omega) | (rw [bytesV_length]; omega) | (rw [ints_length]; omega) | (simp; done) | (simp; omega)) (o' := _) (by rw [Nat.zero_add, Nat.mul_one]) ?_
        refine H.loadOwn 0 rfl agg4 (upF_get (by omega)) ?_
        by_cases hb : k < 2 ^ n
        · refine cond_yes (decide_eq_true hb) ?_
          iterate 4 refine cond_yes (decide_eq_true (by assumption)) ?_
          refine call_fn (c209 k i 1 true rfl (by omega) (by omega) _) ?_
          rintro _ w7 ⟨rfl, hk7⟩
          replace H := H.same hk7
          clear hk7
          refine cond_yes (decide_eq_true (by assumption)) ?_
          refine idxAddr_sl Try.underlying29 (s := 1) (by kernel_rfl) (toP k i true) rfl (hlt true) (o' := _) (by rw [Nat.zero_add, Nat.mul_one]) ?_
          refine cond_yes (decide_eq_true (by assumption)) ?_
          refine H.loadOwn 2 rfl agg4 (flagsN_get (hlt true)) ?_
          refine cond_yes (decide_eq_true (by assumption)) ?_
          refine idxAddr_sl Try.underlying29 (s := 1) (by kernel_rfl) _ rfl (by first | omega | decide | (simp only [IntKind.wrap_i64]; omega) | (rw [bls, List.length_map]; omega) | (rw [bytesV_length]; omega) | (rw [ints_length]; omega) | (simp; done) | (simp; omega)) (o' := _) (by rw [Nat.zero_add, Nat.mul_one]) ?_
          refine H.storeOwn 0 rfl size4 (by rw [bls, List.length_map, upF_length]; omega) rfl ?_
          clear H
          intro w8 H
          exact ⟨k + 1, by show 256 - (k + 1) < 256 - k; omega, ⟨up (by omega), trivial⟩, by show k + 1 ≤ 256; omega, hfin _ _ (by rw [decide_eq_true hb, Bool.true_and, h12]) H⟩
        · refine cond_no (decide_eq_false hb) ?_
          iterate 7 refine cond_no (decide_eq_false (by assumption)) ?_
          refine idxAddr_sl Try.underlying29 (s := 1) (by kernel_rfl) _ rfl (by first | omega | decide | (simp only [IntKind.wrap_i64]; omega) | (rw [bls, List.length_map]; omega) | (rw [bytesV_length]; omega) | (rw [ints_length]; omega) | (simp; done) | (simp; omega)) (o' := _) (by rw [Nat.zero_add, Nat.mul_one]) ?_
          refine H.storeOwn 0 rfl size4 (by rw [bls, List.length_map, upF_length]; omega) rfl ?_
          clear H
          intro w8 H
          exact ⟨k + 1, by show 256 - (k + 1) < 256 - k; omega, ⟨up (by omega), trivial⟩, by show k + 1 ≤ 256; omega, hfin _ _ (by rw [decide_eq_false hb, Bool.false_and]) H⟩
      · refine idxAddr_sl Try.underlying29 (s := 1) (by kernel_rfl) _ rfl (by first | omega | decide | (simp only [IntKind.wrap_i64]; omega) | (rw [bls, List.length_map]; omega) | (rw [bytesV_length]; omega) | (rw [ints_length]; omega) | (simp; done) | (simp; omega)) (o' := _) (by rw [Nat.zero_add, Nat.mul_one]) ?_
        refine H.loadOwn 0 rfl agg4 (upF_get (by omega)) ?_
        by_cases hb : k < 2 ^ n
        · refine cond_yes (decide_eq_true hb) ?_
          iterate 4 refine cond_yes (decide_eq_true (by assumption)) ?_
          refine call_fn (c209 k i 0 false rfl (by omega) (by omega) _) ?_
          rintro _ w7 ⟨rfl, hk7⟩
          replace H := H.same hk7
          clear hk7
          refine cond_yes (decide_eq_true (by assumption)) ?_
          refine idxAddr_sl Try.underlying29 (s := 1) (by kernel_rfl) (toP k i false) rfl (hlt false) (o' := _) (by rw [Nat.zero_add, Nat.mul_one]) ?_
          refine cond_yes (decide_eq_true (by assumption)) ?_
          refine H.loadOwn 2 rfl agg4 (flagsN_get (hlt false)) ?_
          refine cond_yes (decide_eq_true (by assumption)) ?_
          refine idxAddr_sl Try.underlying29 (s := 1) (by kernel_rfl) _ rfl (by first | omega | decide | (simp only [IntKind.wrap_i64]; omega) | (rw [bls, List.length_map]; omega) | (rw [bytesV_length]; omega) | (rw [ints_length]; omega) | (simp; done) | (simp; omega)) (o' := _) (by rw [Nat.zero_add, Nat.mul_one]) ?_
          refine H.storeOwn 0 rfl size4 (by rw [bls, List.length_map, upF_length]; omega) rfl ?_
          clear H
          intro w8 H
          exact ⟨k + 1, by show 256 - (k + 1) < 256 - k; omega, ⟨up (by omega), trivial⟩, by show k + 1 ≤ 256; omega, hfin _ _ (by rw [decide_eq_true hb, Bool.true_and, h12]) H⟩
        · refine cond_no (decide_eq_false hb) ?_
          iterate 7 refine cond_no (decide_eq_false (by assumption)) ?_
          refine idxAddr_sl Try.underlying29 (s := 1) (by kernel_rfl) _ rfl (by first | omega | decide | (simp only [IntKind.wrap_i64]; omega) | (rw [bls, List.length_map]; omega) | (rw [bytesV_length]; omega) | (rw [ints_length]; omega) | (simp; done) | (simp; omega)) (o' := _) (by rw [Nat.zero_add, Nat.mul_one]) ?_
          refine H.storeOwn 0 rfl size4 (by rw [bls, List.length_map, upF_length]; omega) rfl ?_
          clear H
          intro w8 H
          exact ⟨k + 1, by show 256 - (k + 1) < 256 - k; omega, ⟨up (by omega), trivial⟩, by show k + 1 ≤ 256; omega, hfin _ _ (by rw [decide_eq_false hb, Bool.false_and]) H⟩
    · obtain rfl : k = 256 := by omega
      exact ⟨(), trivial, H⟩
  clear H
  rintro ⟨⟩ u w6 H
  replace H : Hp _ _ _ _ _ := H
  refine call_fn (c38 _ (upF_length _ _ _) _ _ _ (own_Sl (H.get 0 rfl))) ?_
  rintro _ w15 ⟨rfl, hk⟩
  replace H := H.same hk
  clear hk
  rw [upF_all]
  refine H.storeSet 3 rfl ?_
  clear H
  intro w5 H
  refine H.loadAll 3 rfl agg24 size24 ?_
  refine ⟨rfl, ?_⟩
  exact ⟨rfl, H.keeps⟩
theorem ent154 : enters Try.prog 154 = true := by kernel_rfl
theorem c154 (s i : Nat) (hi : i < 8) (w : World) : Fun Try.prog 154 [sv s, .int .i64 (i : Int)] w fun v w' => v = .bool ((List.range 256).any fun p => s.testBit p && !s.testBit (toP p i (!p.testBit i))) ∧ Same w w' := by
  refine fun_of_W (N := 30) Try.func154 ent154 rfl rfl rfl (by simp) ?_
  have H := Hp.start0 w
  refine H.box 24 (sv s) (cs := sc s) rfl ?_
  clear H
  intro g2 w1 H
  refine H.loadAll 0 rfl agg24 size24 ?_
  refine call_fn (c40 _ _) ?_
  rintro _ w2 ⟨A5, d5, rfl, hk⟩
  replace H := H.addNew hk
  clear hk
  obtain ⟨g5, rfl⟩ := H.ownA 0 rfl (by omega)
  replace H := H.takeN 1
  refine loop_rule (γ := Nat) _ rfl (fun k => [(6, .int .i64 (k : Int))]) (fun k w' => (k ≤ 256 ∧ ∀ p, p < k → (s.testBit p && !s.testBit (toP p i (!p.testBit i))) = false) ∧ Hp w (fun _ => False) w' [own 4 1 (.slice (some ⟨g5, 0, none⟩) 256 d5) 256 (bls (flagsN s))] []) (fun k => 256 - k) 0 ⟨rfl, trivial⟩ ⟨⟨by omega, fun p hp => by omega⟩, H⟩ ?_
  clear H
  rintro k u w3 ⟨⟨hk, hall⟩, H⟩
  replace H : Hp _ _ _ _ _ := H
  refine cond_dec (fun h7 => ?_) (fun h7 => ?_)
  · have hlt := fun b => toP_lt8 (p := k) (i := i) b (by omega) hi
    have hbm := bit_mod k i
    refine idxAddr_sl Try.underlying29 (s := 1) (by kernel_rfl) k rfl (by omega) (o' := _) (by rw [Nat.zero_add, Nat.mul_one]) ?_
    refine H.loadOwn 0 rfl agg4 (flagsN_get (by omega)) ?_
    by_cases hb : s.testBit k = true
    · refine cond_yes hb ?_
      iterate 4 refine cond_yes hb ?_
      refine cond_yes hb ?_
      refine call_fn (c48 _ _ (by first | assumption | omega | decide) (by first | assumption | omega | decide) _) ?_
      rintro _ w4 ⟨rfl, hk⟩
      replace H := H.same hk
      clear hk
      iterate 2 refine cond_yes (by assumption) ?_
      refine call_fn (c209 k i _ (!k.testBit i) (by rw [hbm]; cases k.testBit i <;> exact wrap_i64_in (by decide) (by decide)) (by omega) hi _) ?_
      rintro _ w7 ⟨rfl, hk7⟩
      replace H := H.same hk7
      clear hk7
      refine cond_yes hb ?_
      refine idxAddr_sl Try.underlying29 (s := 1) (by kernel_rfl) (toP k i (!k.testBit i)) rfl (hlt _) (o' := _) (by rw [Nat.zero_add, Nat.mul_one]) ?_
      refine cond_yes hb ?_
      refine H.loadOwn 0 rfl agg4 (flagsN_get (hlt _)) ?_
      iterate 2 refine cond_yes (by assumption) ?_
      refine cond_split (fun h9 => ?_) (fun h9 => ?_)
      · refine ⟨congrArg Value.bool ?_, H.keeps⟩
        symm
        rw [List.any_eq_true]
        exact ⟨k, List.mem_range.2 (by omega), by rw [hb, h9]; rfl⟩
      · exact ⟨k + 1, by show 256 - (k + 1) < 256 - k; omega, ⟨up (by omega), trivial⟩, ⟨by show k + 1 ≤ 256; omega, fun p hp => by
          by_cases he : p = k
          · subst he
            rw [h9, Bool.and_false]
          · exact hall p (by omega)⟩, H⟩
    · refine cond_no (by simpa using hb) ?_
      iterate 11 refine cond_no (by simp only [*, Bool.not_false, Bool.not_true]) ?_
      refine cond_no rfl ?_
      exact ⟨k + 1, by show 256 - (k + 1) < 256 - k; omega, ⟨up (by omega), trivial⟩, ⟨by show k + 1 ≤ 256; omega, fun p hp => by
        by_cases he : p = k
        · subst he
          rw [Bool.eq_false_iff.2 hb, Bool.false_and]
        · exact hall p (by omega)⟩, H⟩
  · obtain rfl : k = 256 := by omega
    refine ⟨congrArg Value.bool ?_, H.keeps⟩
    symm
    rw [List.any_eq_false]
    intro p hp
    rw [hall p (List.mem_range.1 hp)]; decide
theorem ent148 : enters Try.prog 148 = true := by kernel_rfl
theorem c148 (s n m v : Nat) (hm : m < 256) (hv : v < 256) (hn : n ≤ 8) (w : World) : Fun Try.prog 148 [sv s, .int .i64 (n : Int), cv m v] w fun x w' => x = sv (fixN s n m v) ∧ Same w w' := by
  refine fun_of_W (N := 56) Try.func148 ent148 rfl rfl rfl (by simp) ?_
  have H := Hp.start0 w
  refine H.box 24 (sv s) (cs := sc s) rfl ?_
  clear H
  intro g3 w1 H
  refine H.box 46 (cv m v) (cs := cc m v) rfl ?_
  clear H
  intro g5 w2 H
  refine H.alloc 24 (cs := sc 0) zero24 sc_zero ?_
  clear H
  intro g6 w3 H
  refine H.loadAll 2 rfl agg24 size24 ?_
  refine call_fn (c40 _ _) ?_
  rintro _ w2 ⟨A7, d7, rfl, hk⟩
  replace H := H.addNew hk
  clear hk
  obtain ⟨g7, rfl⟩ := H.ownA 0 rfl (by omega)
  refine call_fn (c39 n hn _) ?_
  rintro _ w5 ⟨A, d8, rfl, hk⟩
  replace H := H.addNew hk
  clear hk
  obtain ⟨g8, rfl⟩ := H.ownA 0 rfl (by omega)
  refine H.loadAll 3 rfl agg46 size46 ?_
  refine call_fn (c162 m v hm hv _) ?_
  rintro _ w5 ⟨A, d9, rfl, hk⟩
  replace H := H.addNew hk
  clear hk
  obtain ⟨g9, rfl⟩ := H.ownA 0 rfl (by omega)
  replace H := H.takeN 4
  have hN : 2 ^ n ≤ 256 := pow_le_256 hn
  have hL := litsTo_length m v 8
  refine cut_rule (γ := Unit) _ rfl (fun _ => []) (fun _ w' => Hp w (fun _ => False) w' [own 3 1 (.slice (some ⟨g9, 0, none⟩) 8 d9) 8 (ints (lits m v)), own 4 1 (.slice (some ⟨g8, 0, none⟩) 256 d8) 256 (bls (upF (fun p => decide (p < 2 ^ n) && s.testBit (fixP m v p n)) (fun p => decide (p < 2 ^ n)) 256)), own 4 1 (.slice (some ⟨g7, 0, none⟩) 256 d7) 256 (bls (flagsN s)), blk g6 24 (sc 0)] []) ?_ ?_
  · refine loop_rule (γ := Nat) _ rfl (fun k => [(10, .int .i64 (k : Int))]) (fun k w' => k ≤ 256 ∧ Hp w (fun _ => False) w' [own 3 1 (.slice (some ⟨g9, 0, none⟩) 8 d9) 8 (ints (lits m v)), own 4 1 (.slice (some ⟨g8, 0, none⟩) 256 d8) 256 (bls (upF (fun p => decide (p < 2 ^ n) && s.testBit (fixP m v p n)) (fun p => decide (p < 2 ^ n)) k)), own 4 1 (.slice (some ⟨g7, 0, none⟩) 256 d7) 256 (bls (flagsN s)), blk g6 24 (sc 0)] []) (fun k => 256 - k) 0 ⟨rfl, trivial⟩ ⟨by omega, by rw [upF_zero]; exact H⟩ ?_
    clear H
    rintro k u w6 ⟨hk, H⟩
    replace H : Hp _ _ _ _ _ := H
    refine cond_dec (fun h7 => ?_) (fun h7 => ?_)
    · have hkk : k < 256 := by omega
      refine cut_rule (γ := Unit) _ rfl (fun _ => []) (fun _ w' => Hp w (fun _ => False) w' [own 3 1 (.slice (some ⟨g9, 0, none⟩) 8 d9) 8 (ints (lits m v)), own 4 1 (.slice (some ⟨g8, 0, none⟩) 256 d8) 256 (bls (upF (fun p => decide (p < 2 ^ n) && s.testBit (fixP m v p n)) (fun p => decide (p < 2 ^ n)) (k + 1))), own 4 1 (.slice (some ⟨g7, 0, none⟩) 256 d7) 256 (bls (flagsN s)), blk g6 24 (sc 0)] []) ?_ ?_
      · refine cut_rule (γ := Unit) _ rfl (fun _ => [(11, .int .i64 (k : Int))]) (fun _ w' => Hp w (fun _ => False) w' [own 3 1 (.slice (some ⟨g9, 0, none⟩) 8 d9) 8 (ints (lits m v)), own 4 1 (.slice (some ⟨g8, 0, none⟩) 256 d8) 256 (bls (upF (fun p => decide (p < 2 ^ n) && s.testBit (fixP m v p n)) (fun p => decide (p < 2 ^ n)) k)), own 4 1 (.slice (some ⟨g7, 0, none⟩) 256 d7) 256 (bls (flagsN s)), blk g6 24 (sc 0)] []) ⟨(), ⟨rfl, trivial⟩, H⟩ ?_
        clear H
        rintro ⟨⟩ u w7 H
        replace H : Hp _ _ _ _ _ := H
        refine cut_rule (γ := Unit) _ rfl (fun _ => [(11, .int .i64 ((fixP m v k n : Nat) : Int))]) (fun _ w' => Hp w (fun _ => False) w' [own 3 1 (.slice (some ⟨g9, 0, none⟩) 8 d9) 8 (ints (lits m v)), own 4 1 (.slice (some ⟨g8, 0, none⟩) 256 d8) 256 (bls (upF (fun p => decide (p < 2 ^ n) && s.testBit (fixP m v p n)) (fun p => decide (p < 2 ^ n)) k)), own 4 1 (.slice (some ⟨g7, 0, none⟩) 256 d7) 256 (bls (flagsN s)), blk g6 24 (sc 0)] []) ?_ ?_
        · refine loop_rule (γ := Nat) _ rfl (fun j => [(12, .int .i64 (j : Int)), (11, .int .i64 ((fixP m v k j : Nat) : Int))]) (fun j w' => j ≤ n ∧ Hp w (fun _ => False) w' [own 3 1 (.slice (some ⟨g9, 0, none⟩) 8 d9) 8 (ints (lits m v)), own 4 1 (.slice (some ⟨g8, 0, none⟩) 256 d8) 256 (bls (upF (fun p => decide (p < 2 ^ n) && s.testBit (fixP m v p n)) (fun p => decide (p < 2 ^ n)) k)), own 4 1 (.slice (some ⟨g7, 0, none⟩) 256 d7) 256 (bls (flagsN s)), blk g6 24 (sc 0)] []) (fun j => n - j) 0 ⟨rfl, rfl, trivial⟩ ⟨Nat.zero_le _, H⟩ ?_
          clear H
          rintro j u w7 ⟨hj, H⟩
          replace H : Hp _ _ _ _ _ := H
          refine cond_dec (fun h9 => ?_) (fun h9 => ?_)
          · have hlt := fixP_lt m v (n := 8) hkk j (by omega)
            refine idxAddr_sl Try.underlying32 (s := 1) size3 j rfl (by omega) (o' := _) (by rw [Nat.zero_add, Nat.mul_one]) ?_
            refine H.loadOwn 0 rfl agg3 (lits_int (by omega)) ?_
            refine cond_bne (fun h6 => ?_) (fun h6 => ?_)
            · have hmj := lit_set h6
              refine idxAddr_sl Try.underlying32 (s := 1) size3 j rfl (by omega) (o' := _) (by rw [Nat.zero_add, Nat.mul_one]) ?_
              refine H.loadOwn 0 rfl agg3 (lits_int (by omega)) ?_
              refine call_fn (c209 (fixP m v k j) j _ (v.testBit j) (by unfold litN; rw [if_pos hmj]) (by omega) (by omega) _) ?_
              rintro _ w8 ⟨rfl, hk8⟩
              replace H := H.same hk8
              clear hk8
              exact ⟨j + 1, by show n - (j + 1) < n - j; omega, ⟨up (by omega), congrArg (fun x : Nat => Value.int .i64 (x : Int)) (show toP (fixP m v k j) j (v.testBit j) = fixP m v k (j + 1) by rw [fixP, if_pos hmj]), trivial⟩, by show j + 1 ≤ n; omega, H⟩
            · have hmj : m.testBit j = false := litN_two.1 (by exact_mod_cast h6)
              exact ⟨j + 1, by show n - (j + 1) < n - j; omega, ⟨up (by omega), congrArg (fun x : Nat => Value.int .i64 (x : Int)) (show fixP m v k j = fixP m v k (j + 1) by rw [fixP, if_neg (by rw [hmj]; decide)]), trivial⟩, by show j + 1 ≤ n; omega, H⟩
          · obtain rfl : j = n := by omega
            exact ⟨(), ⟨rfl, trivial⟩, H⟩
        clear H
        rintro ⟨⟩ u w7 H
        replace H : Hp _ _ _ _ _ := H
        have hlt := fixP_lt m v (n := 8) hkk n hn
        have hfin : ∀ w2 b, b = (decide (k < 2 ^ n) && s.testBit (fixP m v k n)) → Hp w (fun _ => False) w2 [own 3 1 (.slice (some ⟨g9, 0, none⟩) 8 d9) 8 (ints (lits m v)), own 4 1 (.slice (some ⟨g8, 0, none⟩) 256 d8) 256 ((bls (upF (fun p => decide (p < 2 ^ n) && s.testBit (fixP m v p n)) (fun p => decide (p < 2 ^ n)) k)).set k (.bool b)), own 4 1 (.slice (some ⟨g7, 0, none⟩) 256 d7) 256 (bls (flagsN s)), blk g6 24 (sc 0)] [] →
            Hp w (fun _ => False) w2 [own 3 1 (.slice (some ⟨g9, 0, none⟩) 8 d9) 8 (ints (lits m v)), own 4 1 (.slice (some ⟨g8, 0, none⟩) 256 d8) 256 (bls (upF (fun p => decide (p < 2 ^ n) && s.testBit (fixP m v p n)) (fun p => decide (p < 2 ^ n)) (k + 1))), own 4 1 (.slice (some ⟨g7, 0, none⟩) 256 d7) 256 (bls (flagsN s)), blk g6 24 (sc 0)] [] := fun w2 b hb H => by
          subst hb
          rwa [← bls_set, upF_set (f := fun p => decide (p < 2 ^ n) && s.testBit (fixP m v p n)) (by omega)] at H
        refine idxAddr_sl Try.underlying29 (s := 1) (by kernel_rfl) k rfl (by omega) (o' := _) (by rw [Nat.zero_add, Nat.mul_one]) ?_
        refine H.loadOwn 1 rfl agg4 (upF_get (by omega)) ?_
        by_cases hb : k < 2 ^ n
        · refine cond_yes (decide_eq_true hb) ?_
          refine cond_yes (decide_eq_true hb) ?_
          refine cond_yes (decide_eq_true hb) ?_
          refine idxAddr_sl Try.underlying29 (s := 1) (by kernel_rfl) (fixP m v k n) rfl hlt (o' := _) (by rw [Nat.zero_add, Nat.mul_one]) ?_
          refine cond_yes (decide_eq_true hb) ?_
          refine H.loadOwn 2 rfl agg4 (flagsN_get hlt) ?_
          refine cond_yes (decide_eq_true hb) ?_
          refine idxAddr_sl Try.underlying29 (s := 1) (by kernel_rfl) k rfl (by omega) (o' := _) (by rw [Nat.zero_add, Nat.mul_one]) ?_
          refine H.storeOwn 1 rfl size4 (by rw [bls, List.length_map, upF_length]; omega) rfl ?_
          clear H
          intro w8 H
          exact ⟨(), trivial, hfin _ _ (by rw [decide_eq_true hb, Bool.true_and]) H⟩
        · refine cond_no (decide_eq_false hb) ?_
          repeat refine cond_no (decide_eq_false hb) ?_
          refine idxAddr_sl Try.underlying29 (s := 1) (by kernel_rfl) k rfl (by omega) (o' := _) (by rw [Nat.zero_add, Nat.mul_one]) ?_
          refine H.storeOwn 1 rfl size4 (by rw [bls, List.length_map, upF_length]; omega) rfl ?_
          clear H
          intro w8 H
          exact ⟨(), trivial, hfin _ _ (by rw [decide_eq_false hb, Bool.false_and]) H⟩
      · clear H
        rintro ⟨⟩ u w7 H
        exact ⟨k + 1, by show 256 - (k + 1) < 256 - k; omega, ⟨up (by omega), trivial⟩, by show k + 1 ≤ 256; omega, H⟩
    · obtain rfl : k = 256 := by omega
      exact ⟨(), trivial, H⟩
  clear H
  rintro ⟨⟩ u w6 H
  replace H : Hp _ _ _ _ _ := H
  refine call_fn (c38 _ (upF_length _ _ _) _ _ _ (own_Sl (H.get 1 rfl))) ?_
  rintro _ w15 ⟨rfl, hk⟩
  replace H := H.same hk
  clear hk
  rw [upF_all]
  refine H.storeSet 3 rfl ?_
  clear H
  intro w5 H
  refine H.loadAll 3 rfl agg24 size24 ?_
  refine ⟨rfl, ?_⟩
  exact ⟨rfl, H.keeps⟩
end Go.Proofs.Ytjebpngdinbckaa
end

section
/- Diagrams composed: start, knows. -/
namespace Go.Proofs.Ytjebpngdinbckaa
open Go.Dk
attribute [local irreducible] IntKind.wrap

/-- A diagram's own parts. -/
def bdL (g ga r co : Nat) (B : Option Addr) (o : List Nat) (sv0 : Value) (room : Int) (A : Ar) : List Res :=
  [own 3 1 (.slice B o.length co) o.length (intsN o), blk g 213 (bdC B o.length co ga), arR ga r sv0 room A]
theorem _root_.Go.Dk.Hp.bdAtL {w0 w : World} {F : Nat → Prop} {L M : List Res} {g ga r co : Nat} {B : Option Addr} {o : List Nat} {sv0 : Value} {room : Int} {A : Ar} (H : Hp w0 F w (bdL g ga r co B o sv0 room A ++ L) M) : BdAt w g ga r co B o sv0 room A := by
  have hd := H.dis
  unfold bdL at hd
  simp only [List.cons_append, List.nil_append, List.pairwise_cons] at hd
  obtain ⟨h1, h2, _⟩ := hd
  refine ⟨fun s hs => ?_, fun s hs => ?_, H.ok _ (by simp [bdL]), fun s hs => ?_⟩
  · unfold bdM at hs
    rcases List.mem_cons.1 hs with rfl | hs
    · exact H.ok _ (by simp [bdL])
    · rw [List.mem_singleton] at hs; subst hs; exact H.ok _ (by simp [bdL])
  · unfold bdM at hs
    rcases List.mem_cons.1 hs with rfl | hs
    · exact H.lt _ (by simp [bdL])
    · rw [List.mem_singleton] at hs; subst hs; exact H.lt _ (by simp [bdL])
  · unfold bdM at hs
    rcases List.mem_cons.1 hs with rfl | hs
    · exact h2 _ (.head _)
    · rw [List.mem_singleton] at hs; subst hs; exact h1 _ (.tail _ (.head _))
theorem _root_.Go.Dk.Hp.bdTurn {w0 w w' : World} {F : Nat → Prop} {L M : List Res} {g ga r co : Nat} {B : Option Addr} {o : List Nat} {sv0 sv1 : Value} {room : Int} {A A1 : Ar} (H : Hp w0 F w (bdL g ga r co B o sv0 room A ++ L) M) (ht : Turn w w' (arR ga r sv0 room A) (arR ga r sv1 room A1)) :
    Hp w0 F w' (bdL g ga r co B o sv1 room A1 ++ L) M := H.turnBy 2 rfl ht
/-- May these sets be a diagram's? -/
def MayT (ks : List Int) (s t : Nat) : Prop := OrdI ks ∧ lessN s (allN ks.length) = 0 ∧ lessN t (allN ks.length) = 0
theorem ent144 : enters Try.prog 144 = true := by kernel_rfl
theorem c144 (ks : List Int) (B : Option Addr) (c : Nat) (s t : Nat) (hs : s < 2 ^ 256) (ht : t < 2 ^ 256) (w : World) (hl : ks.length ≤ 9223372036854775807) (hS : Sl w (.slice B ks.length c) 1 ks.length (intsI ks)) :
    Fun Try.prog 144 [.slice B ks.length c, sv s, sv t] w fun v w' =>
      (¬ MayT ks s t ∧ v = .tuple #[.pointer none, .int .i64 0, .int .i64 0, .bool false] ∧ Same w w') ∨
      (MayT ks s t ∧ ∃ g ga r co B' sv' A f h, v = .tuple #[.pointer (some ⟨g, 0, none⟩), .int .i64 f, .int .i64 h, .bool true] ∧
        (ArOk 20000 A ∧ BInv (natsI ks).length A ∧ liveA A ≤ 510 ∧ Rep A f (FnS (natsI ks) s) ∧ Rep A h (FnS (natsI ks) t) ∧ freeA A = A.length ∧ (s = 0 → t = 0 → ∀ i, slot A i = none)) ∧
        NewR w w' (bdR g ga r co B' (natsI ks) sv' 20000 A)) := by
  refine fun_of_W (N := 58) Try.func144 ent144 rfl rfl rfl (by simp) ?_
  have H := Hp.start0 w
  refine cut_rule (γ := Nat × Nat) _ rfl (fun (g4, g5) => [(4, .pointer (some ⟨g4, 0, none⟩)), (5, .pointer (some ⟨g5, 0, none⟩))]) (fun (g4, g5) w' => Hp w (fun _ => False) w' [blk g5 24 (sc t), blk g4 24 (sc s)] []) ?_ ?_
  · refine H.box 24 (sv s) (cs := sc s) rfl ?_
    clear H
    intro g4 w1 H
    refine H.box 24 (sv t) (cs := sc t) rfl ?_
    clear H
    intro g5 w2 H
    exact ⟨(g4, g5), ⟨rfl, rfl, trivial⟩, H⟩
  clear H
  rintro ⟨g4, g5⟩ u w1 H
  replace H : Hp _ _ _ _ _ := H
  refine cut_rule (γ := Unit) _ rfl (fun _ => []) (fun _ w' => MayT ks s t ∧ Hp w (fun _ => False) w' [blk g5 24 (sc t), blk g4 24 (sc s)] []) ?_ ?_
  · refine len_sl Try.underlying32 ?_
    refine cond_dec (fun h3 => ?_) (fun h3 => ?_)
    · repeat refine cond_yes (decide_eq_true (by assumption)) ?_
      iterate 13 refine cond_yes rfl ?_
      exact .inl ⟨fun h => by have := h.1.le; omega, rfl, H.keeps⟩
    · refine cond_no (decide_eq_false (by assumption)) ?_
      refine call_fn (c101 ks B c _ hl (hS.same H.keeps)) ?_
      rintro _ w2 ⟨rfl, hk⟩
      replace H := H.same hk
      clear hk
      cases hb : orderB ks with
      | false =>
        iterate 2 refine cond_no (decide_eq_false (by assumption)) ?_
        iterate 13 refine cond_yes rfl ?_
        exact .inl ⟨fun h => absurd hb (by rw [(ordB_iff ks).2 h.1]; decide), rfl, H.keeps⟩
      | true =>
        have hord := (ordB_iff ks).1 hb
        iterate 2 refine cond_no (decide_eq_false (by assumption)) ?_
        refine cond_no rfl ?_
        refine H.loadAll 1 rfl agg24 size24 ?_
        iterate 2 refine cond_no rfl ?_
        refine len_sl Try.underlying32 ?_
        refine cond_no rfl ?_
        refine call_fn (c109 _ _ (by first | assumption | omega | decide) (by first | assumption | omega | decide) _) ?_
        rintro _ w14 ⟨rfl, hk⟩
        replace H := H.same hk
        clear hk
        iterate 2 refine cond_no rfl ?_
        refine cond_split (fun h17 => ?_) (fun h17 => ?_)
        · refine cond_yes (by assumption) ?_
          iterate 4 refine cond_yes (by assumption) ?_
          refine cond_yes rfl ?_
          exact .inl ⟨fun h => by rw [flags_all, h.2.1] at h17; exact absurd h17 (by decide), rfl, H.keeps⟩
        · refine H.loadAll 0 rfl agg24 size24 ?_
          iterate 2 refine cond_no (by assumption) ?_
          refine len_sl Try.underlying32 ?_
          refine cond_no (by assumption) ?_
          refine call_fn (c109 _ _ (by first | assumption | omega | decide) (by first | assumption | omega | decide) _) ?_
          rintro _ w30 ⟨rfl, hk⟩
          replace H := H.same hk
          clear hk
          iterate 2 refine cond_no (by assumption) ?_
          refine cond_split (fun h33 => ?_) (fun h33 => ?_)
          · exact .inl ⟨fun h => by rw [flags_all, h.2.2] at h33; exact absurd h33 (by decide), rfl, H.keeps⟩
          · exact ⟨(), trivial, ⟨hord, by rw [flags_all] at h17; simpa using h17, by rw [flags_all] at h33; simpa using h33⟩, H⟩
  clear H
  rintro ⟨⟩ u w2 ⟨hmay, H⟩
  replace H : Hp _ _ _ _ _ := H
  have hord := hmay.1
  have ho : OrdO (natsI ks) := hord.nats
  have hlen : (natsI ks).length = ks.length := by simp [natsI]
  have ho8 : (natsI ks).length ≤ 8 := ho.le
  refine cut_rule (γ := Nat × Nat × Nat × Nat × Option Addr) _ rfl (fun (g, _) => [(10, .pointer (some ⟨g, 0, none⟩))]) (fun (g, ga, r, co, B') w' => Hp w (fun _ => False) w' (bdL g ga r co B' (natsI ks) (.slice none 0 0) 20000 [] ++ [blk g5 24 (sc t), blk g4 24 (sc s)]) []) ?_ ?_
  · refine call_fn (c113 ks B c 20000 _ hl (hS.same H.keeps)) ?_
    rintro _ w3 (⟨h, _⟩ | ⟨_, _, _, g, ga, r, co, B', rfl, hn⟩)
    · rcases h with h | h | h
      · exact absurd hord h
      · exact absurd h (by decide)
      · exact absurd h (by decide)
    · exact ⟨(g, ga, r, co, B'), ⟨rfl, trivial⟩, (H.addNew hn).split⟩
  clear H
  rintro ⟨g, ga, r, co, B'⟩ u w3 H
  replace H : Hp _ _ _ _ _ := H
  have hA0 : BInv (natsI ks).length [] := BInv.nil _
  have hok0 : ArOk 20000 [] := ok_start (by decide) (by decide)
  have hzero : ∀ {A A' : Ar} {id e : Int}, (∀ i, slot A i = none) → Made (natsI ks).length 20000 A A' (FnS (natsI ks) 0) id e → ∀ i, slot A' i = none := fun {A A' id e} hz hm i => by
    have hF : FnS (natsI ks) 0 = fun _ => false := by funext a; unfold FnS; exact Nat.zero_testBit _
    rw [hF] at hm
    have hback := made_none hm (fun _ _ _ => rfl)
    cases h : slot A' i with
    | none => rfl
    | some d => have := hback i d h; rw [hz i] at this; cases this
  refine cut_rule (γ := Int × Value × Ar) _ rfl (fun (f, _) => [(12, .int .i64 f)]) (fun (f, sv1, A1) w' => (ArOk 20000 A1 ∧ BInv (natsI ks).length A1 ∧ liveA A1 ≤ 255 ∧ Rep A1 f (FnS (natsI ks) s) ∧ freeA A1 = A1.length ∧ (s = 0 → ∀ i, slot A1 i = none)) ∧ Hp w (fun _ => False) w' (bdL g ga r co B' (natsI ks) sv1 20000 A1 ++ [blk g5 24 (sc t), blk g4 24 (sc s)]) []) ?_ ?_
  · refine H.loadAll 4 rfl agg24 size24 ?_
    refine call_fn (c108 ho ho8 hs _ hA0 hok0 H.bdAtL) ?_
    rintro _ w4 ⟨A1, sv1, f, e, rfl, (⟨h, _⟩ | ⟨_, hm⟩), hok1, ht1⟩
    · exact absurd (by rw [hlen]; exact hmay.2.1) h
    · have hz : s = 0 → ∀ i, slot A1 i = none := fun h0 => by
        subst h0
        exact hzero (fun i => rfl) hm
      have hfull := hm.full rfl
      obtain ⟨rfl, hr, hl⟩ := made_small hm (FnS_low ho s) ho8 (q := 0) (by decide) (by decide)
      exact ⟨(f, sv1, A1), ⟨rfl, trivial⟩, ⟨hok1, hm.inv, by omega, hr, hfull, hz⟩, H.bdTurn ht1⟩
  clear H
  rintro ⟨f, sv1, A1⟩ u w4 ⟨⟨hok1, hA1, hl1, hr1, hf1, hz1⟩, H⟩
  replace H : Hp _ _ _ _ _ := H
  refine cut_rule (γ := Int × Value × Ar) _ rfl (fun (h, _) => [(14, .int .i64 h)]) (fun (h, sv2, A2) w' => (ArOk 20000 A2 ∧ BInv (natsI ks).length A2 ∧ liveA A2 ≤ 510 ∧ Rep A2 f (FnS (natsI ks) s) ∧ Rep A2 h (FnS (natsI ks) t) ∧ freeA A2 = A2.length ∧ (s = 0 → t = 0 → ∀ i, slot A2 i = none)) ∧ Hp w (fun _ => False) w' (bdL g ga r co B' (natsI ks) sv2 20000 A2 ++ [blk g5 24 (sc t), blk g4 24 (sc s)]) []) ?_ ?_
  · refine H.loadAll 3 rfl agg24 size24 ?_
    refine call_fn (c108 ho ho8 ht _ hA1 hok1 H.bdAtL) ?_
    rintro _ w5 ⟨A2, sv2, h, e, rfl, (⟨h, _⟩ | ⟨_, hm⟩), hok2, ht2⟩
    · exact absurd (by rw [hlen]; exact hmay.2.2) h
    · have hz : s = 0 → t = 0 → ∀ i, slot A2 i = none := fun h0 h1 => by
        subst h1
        exact hzero (hz1 h0) hm
      have hfull := hm.full hf1
      obtain ⟨rfl, hr, hl⟩ := made_small hm (FnS_low ho t) ho8 hl1 (by decide)
      exact ⟨(h, sv2, A2), ⟨rfl, trivial⟩, ⟨hok2, hm.inv, by omega, hr1.ext hA1.inv hm.inv.inv hm.ext, hr, hfull, hz⟩, H.bdTurn ht2⟩
  clear H
  rintro ⟨h, sv2, A2⟩ u w5 ⟨hfacts, H⟩
  replace H : Hp _ _ _ _ _ := H
  exact .inr ⟨hmay, g, ga, r, co, B', sv2, A2, f, h, rfl, hfacts, H.join.out⟩
end Go.Proofs.Ytjebpngdinbckaa
end

section
/- Diagrams composed: what the laws say, plain. -/
namespace Go.Proofs.Ytjebpngdinbckaa
open Go.Dk

theorem bits_ext {p q : Nat} (h : ∀ j, p.testBit j = q.testBit j) : p = q := Nat.eq_of_testBit_eq h
theorem toP_fix (m v p k : Nat) (b : Bool) : fixP m v (toP p k b) k = toP (fixP m v p k) k b := bits_ext fun j => by
  rw [tb_fixP, tb_toP, tb_toP, tb_fixP]
  by_cases h1 : j = k
  · subst h1
    rw [if_pos rfl, if_pos rfl, if_neg (by omega)]
  · rw [if_neg h1, if_neg h1]
theorem up_asg {o : List Nat} (ho : OrdO o) (p : Nat) {k : Nat} (hk : k < o.length) (b : Bool) : ∀ j, upA (asgP o p) (o.idxOf k) b j = asgP o (toP p k b) j := fun j => by
  unfold upA
  by_cases hj : j = o.idxOf k
  · rw [if_pos hj]
    subst hj
    unfold asgP
    rw [decide_eq_true (ho.idx_lt hk), Bool.true_and, ho.get_idx hk, tb_toP, if_pos rfl]
  · rw [if_neg hj]
    unfold asgP
    by_cases hjn : j < o.length
    · rw [decide_eq_true hjn, Bool.true_and, Bool.true_and, tb_toP, if_neg]
      intro h
      exact hj (by rw [← h, ho.idx_get hjn])
    · rw [decide_eq_false hjn]; rfl
theorem up_asg' {o : List Nat} (ho : OrdO o) (p : Nat) {k : Nat} (hk : k < o.length) (b : Bool) : upA (asgP o p) (o.idxOf k) b = asgP o (toP p k b) := funext (up_asg ho p hk b)
theorem fix_asg {o : List Nat} (ho : OrdO o) (m v : Nat) (F : Dk.Fn) : ∀ k, k ≤ o.length → ∀ p, fixTo o m v F k (asgP o p) = F (asgP o (fixP m v p k))
  | 0, _, p => rfl
  | k + 1, hk, p => by
    rw [fixTo, fixP]
    split
    · unfold halfF
      rw [up_asg' ho p (by omega), fix_asg ho m v F k (by omega), toP_fix]
    · exact fix_asg ho m v F k (by omega) p
theorem setD_fix {o : List Nat} (ho : OrdO o) {A : Ar} {x : Int} {m v s : Nat} (h : Rep A x (fixTo o m v (FnS o s) o.length)) : setD o A x = fixN s o.length m v := by
  refine setD_rep ho h (setOf_lt _) (fun p hp => ?_) fun p hp => ?_
  · unfold fixN at hp
    rw [testBit_setOf, Bool.and_eq_true, Bool.and_eq_true, decide_eq_true_eq, decide_eq_true_eq] at hp
    exact hp.2.1
  · unfold fixN
    have h256 := pow_le_256 ho.le
    rw [fix_asg ho m v _ _ (Nat.le_refl _), FnS_asg ho s (fixP_lt m v hp _ (Nat.le_refl _)), testBit_setOf, decide_eq_true (show p < 256 by omega), decide_eq_true hp, Bool.true_and, Bool.true_and]
theorem setD_put {o : List Nat} (ho : OrdO o) {A : Ar} {x : Int} {i s t : Nat} (hi : i < o.length) (h : Rep A x fun a => if FnS o t a then halfF (FnS o s) (o.idxOf i) true a else halfF (FnS o s) (o.idxOf i) false a) : setD o A x = putN s o.length i t := by
  refine setD_rep ho h (setOf_lt _) (fun p hp => ?_) fun p hp => ?_
  · unfold putN at hp
    rw [testBit_setOf, Bool.and_eq_true, Bool.and_eq_true, decide_eq_true_eq, decide_eq_true_eq] at hp
    exact hp.2.1
  · unfold putN halfF
    have h256 := pow_le_256 ho.le
    rw [testBit_setOf, decide_eq_true (show p < 256 by omega), decide_eq_true hp, Bool.true_and, Bool.true_and, FnS_asg ho t hp, up_asg' ho p hi, up_asg' ho p hi, FnS_asg ho s (toP_lt _ hp hi), FnS_asg ho s (toP_lt _ hp hi)]
    cases t.testBit p <;> rfl
theorem pt_up {o : List Nat} (ho : OrdO o) (a : Asg) {i : Nat} (hi : i < o.length) (b : Bool) : ptA o (upA a (o.idxOf i) b) = toP (ptA o a) i b := bits_ext fun j => by
  rw [tb_toP]
  by_cases hj : j < o.length
  · rw [testBit_ptA _ hj]
    unfold upA
    by_cases he : j = i
    · subst he; rw [if_pos rfl, if_pos rfl]
    · rw [if_neg he, if_neg (fun h => he (by
        have e1 := ho.get_idx hj
        have e2 := ho.get_idx hi
        rw [h] at e1; omega)), testBit_ptA _ hj]
  · have e1 := Nat.testBit_lt_two_pow (Nat.lt_of_lt_of_le (ptA_lt o (upA a (o.idxOf i) b)) (Nat.pow_le_pow_right (by decide) (show o.length ≤ j by omega)))
    have e2 := Nat.testBit_lt_two_pow (Nat.lt_of_lt_of_le (ptA_lt o a) (Nat.pow_le_pow_right (by decide) (show o.length ≤ j by omega)))
    rw [e1, e2, if_neg (by omega)]
theorem toP_self (p i : Nat) : toP p i (p.testBit i) = p := by unfold toP; rw [if_pos rfl]
theorem toP_toP (p i : Nat) (b c : Bool) : toP (toP p i b) i c = toP p i c := bits_ext fun j => by
  rw [tb_toP, tb_toP, tb_toP]; split <;> rfl
theorem hangs_iff {o : List Nat} (ho : OrdO o) {s i : Nat} (hi : i < o.length) (hw : ∀ p, s.testBit p = true → p < 2 ^ o.length) : ¬ Indep (FnS o s) (o.idxOf i) ↔ ((List.range 256).any fun p => s.testBit p && !s.testBit (toP p i (!p.testBit i))) = true := by
  have h256 := pow_le_256 ho.le
  rw [List.any_eq_true]
  constructor
  · intro h
    refine Classical.byContradiction fun hn => h fun a b => ?_
    have hall : ∀ p, p < 256 → s.testBit p = true → s.testBit (toP p i (!p.testBit i)) = true := fun p hp h1 => by
      cases h2 : s.testBit (toP p i (!p.testBit i))
      · exact absurd ⟨p, List.mem_range.2 hp, by rw [h1, h2]; rfl⟩ hn
      · rfl
    have key : ∀ p, p < 256 → s.testBit p = true → ∀ b, s.testBit (toP p i b) = true := fun p hp h1 b => by
      by_cases hb : b = p.testBit i
      · rw [hb, toP_self]; exact h1
      · have h2 := hall p hp h1
        have : b = !p.testBit i := by cases b <;> cases hpb : p.testBit i <;> rw [hpb] at hb <;> first | rfl | exact absurd rfl hb
        rw [this]; exact h2
    unfold FnS
    rw [pt_up ho a hi]
    have hp : ptA o a < 256 := by have := ptA_lt o a; omega
    have hq : toP (ptA o a) i b < 256 := by have := toP_lt b (ptA_lt o a) hi; omega
    cases h1 : s.testBit (ptA o a) with
    | true => exact key _ hp h1 b
    | false =>
      cases h2 : s.testBit (toP (ptA o a) i b) with
      | false => rfl
      | true =>
        have := key _ hq h2 ((ptA o a).testBit i)
        rw [toP_toP, toP_self, h1] at this
        exact this.symm
  · rintro ⟨p, _, hp⟩ hI
    rw [Bool.and_eq_true] at hp
    have hpn := hw p hp.1
    have := hI (asgP o p) (!p.testBit i)
    unfold FnS at this
    rw [pt_up ho _ hi, pt_asg ho hpn, hp.1] at this
    rw [this] at hp
    simp at hp
theorem countP_from {f : Nat → Bool} {n m : Nat} (h : n ≤ m) (hf : ∀ p, f p = true → p < n) : (List.range m).countP f = (List.range n).countP f := by
  obtain ⟨k, rfl⟩ : ∃ k, m = n + k := ⟨m - n, by omega⟩
  clear h
  induction k with
  | zero => rfl
  | succ k ih =>
    rw [← Nat.add_assoc, List.range_succ, List.countP_append, ih]
    have : f (n + k) = false := by
      cases hh : f (n + k)
      · rfl
      · have := hf _ hh; omega
    simp [this]
theorem count_pts {o : List Nat} (ho : OrdO o) {s : Nat} (hw : ∀ p, s.testBit p = true → p < 2 ^ o.length) : ((List.range (2 ^ o.length)).countP fun p => FnS o s (asgP o p)) = (pts s).length := by
  have h256 := pow_le_256 ho.le
  have e : ((List.range (2 ^ o.length)).countP fun p => FnS o s (asgP o p)) = (List.range (2 ^ o.length)).countP fun p => s.testBit p := by
    refine List.countP_congr fun p hp => ?_
    rw [FnS_asg ho s (List.mem_range.1 hp)]
  rw [e, ← countP_from (m := 256) (by omega) hw, List.countP_eq_length_filter]
  rfl
theorem within_iff {o : List Nat} (ho : OrdO o) {s t : Nat} (hs : s < 2 ^ 256) (hw : ∀ p, s.testBit p = true → p < 2 ^ o.length) : (∀ a, FnS o s a = true → FnS o t a = true) ↔ lessN s t = 0 := by
  have hz : lessN s t = 0 ↔ ∀ p, s.testBit p = true → t.testBit p = true := by
    rw [← beq_iff_eq, lessN_zero (b := t) hs]
    constructor
    · intro h p hp
      cases ht : t.testBit p
      · have h256 := pow_le_256 ho.le
        have := hw p hp
        exact absurd ⟨hp, ht⟩ (h p (by omega))
      · rfl
    · rintro h p _ ⟨h1, h2⟩
      rw [h p h1] at h2; cases h2
  rw [hz]
  constructor
  · intro h p hp
    have hpn := hw p hp
    have := h (asgP o p) (by rw [FnS_asg ho s hpn]; exact hp)
    rwa [FnS_asg ho t hpn] at this
  · intro h a ha
    exact h _ ha
end Go.Proofs.Ytjebpngdinbckaa
end

section
/- Diagrams composed: knows. -/
namespace Go.Proofs.Ytjebpngdinbckaa
open Go.Dk
attribute [local irreducible] IntKind.wrap

theorem ordI10 : OrdI [1, 0] := by decide
theorem build24_14 {w : World} {kk : Value → World → Prop} (h : kk (sv 14) w) : buildK Try.prog 24 [(0, .int .u64 14)] w kk := build_by (fun w => by kernel_rfl) h
theorem build24_12 {w : World} {kk : Value → World → Prop} (h : kk (sv 12) w) : buildK Try.prog 24 [(0, .int .u64 12)] w kk := build_by (fun w => by kernel_rfl) h
theorem build46_1 {w : World} {kk : Value → World → Prop} (h : kk (cv 1 0) w) : buildK Try.prog 46 [(0, .int .u8 1)] w kk := build_by (fun w => by kernel_rfl) h
theorem low_two {F : Dk.Fn} (hF : Low 2 F) {c : Bool} (h : ∀ x y, F (fun k => if k = 0 then x else if k = 1 then y else false) = c) (a : Asg) : F a = c := by
  rw [← h (a 0) (a 1)]
  refine hF _ _ fun k hk => ?_
  rcases k with _ | _ | k
  · rfl
  · rfl
  · omega
theorem ent145 : enters Try.prog 145 = true := by kernel_rfl
theorem c145 (w : World) : Fun Try.prog 145 [] w fun v w' => v = .bool true ∧ Same w w' := by
  refine fun_of_W (N := 80) Try.func145 ent145 rfl rfl rfl (by simp) ?_
  have H := Hp.start0 w
  have ho : OrdO (natsI [1, 0]) := ordI10.nats
  have ho8 : (natsI [1, 0]).length ≤ 8 := ho.le
  refine cut_rule (γ := Unit) _ rfl (fun _ => [(0, .bool false)]) (fun _ w' => Hp w (fun _ => False) w' [] []) ⟨(), ⟨rfl, trivial⟩, H⟩ ?_
  clear H
  rintro ⟨⟩ u w0 H
  replace H : Hp _ _ _ _ _ := H
  refine cut_rule (γ := Nat × Nat × Nat × Nat × Option Addr) _ rfl (fun (g, _) => [(1, .pointer (some ⟨g, 0, none⟩)), (2, .int .i64 0)]) (fun (g, ga, r, co, B) w' => Hp w (fun _ => False) w' [arR ga r (.slice none 0 0) 20000 []] (bdM g ga co B (natsI [1, 0]) ++ [])) ?_ ?_
  · refine H.buildSl T32 (n := 2) (cs := #[.int .i64 1, .int .i64 0]) (by omega) (by omega) (by kernel_rfl) ?_
    clear H
    intro g5 w1 H
    refine call_fn (c113 [1, 0] (some ⟨g5, 0, none⟩) 2 20000 _ (by decide) (blkN_Sl (H.get 0 rfl) (blk_lt (H.get 0 rfl)) rfl (by decide))) ?_
    rintro _ w2 (⟨h, _⟩ | ⟨_, _, _, g, ga, r, co, B, rfl, hn⟩)
    · rcases h with h | h | h
      · exact absurd ordI10 h
      · exact absurd h (by decide)
      · exact absurd h (by decide)
    · exact ⟨(g, ga, r, co, B), ⟨rfl, rfl, trivial⟩, (H.addNew hn).bdOpen.takeN 1⟩
  clear H
  rintro ⟨g, ga, r, co, B⟩ u w1 H
  replace H : Hp _ _ _ _ _ := H
  have hA0 : BInv (natsI [1, 0]).length [] := BInv.nil _
  have hok0 : ArOk 20000 [] := ok_start (by decide) (by decide)
  refine cut_rule (γ := Int × Value × Ar) _ rfl (fun (f, _) => [(3, .int .i64 f), (4, .int .i64 0)]) (fun (f, sv1, A1) w' => (ArOk 20000 A1 ∧ BInv (natsI [1, 0]).length A1 ∧ liveA A1 ≤ 255 ∧ Rep A1 f (FnS (natsI [1, 0]) 14)) ∧ Hp w (fun _ => False) w' [arR ga r sv1 20000 A1] (bdM g ga co B (natsI [1, 0]) ++ [])) ?_ ?_
  · refine build24_14 ?_
    refine call_fn (c108 ho ho8 (s := 14) (by decide) _ hA0 hok0 H.bdAt') ?_
    rintro _ w2 ⟨A1, sv1, f, e, rfl, (⟨h, _⟩ | ⟨_, hm⟩), hok1, ht⟩
    · exact absurd (by decide +kernel) h
    · obtain ⟨rfl, hr, hl⟩ := made_small hm (FnS_low ho 14) ho8 (q := 0) (by decide) (by decide)
      exact ⟨(f, sv1, A1), ⟨rfl, rfl, trivial⟩, ⟨hok1, hm.inv, hl, hr⟩, H.turnBy 0 rfl ht⟩
  clear H hok0 hA0
  rintro ⟨f, sv1, A1⟩ u w2 ⟨⟨hok1, hA1, hl1, hr1⟩, H⟩
  replace H : Hp _ _ _ _ _ := H
  have tf := hr1.there
  have hs1 : sem A1 f = FnS (natsI [1, 0]) 14 := by funext a; exact hr1.says a
  refine cut_rule (γ := Int × Value × Ar) _ rfl (fun (x, _) => [(5, .int .i64 x), (6, .int .i64 0)]) (fun (x, sv2, A2) w' => (ArOk 20000 A2 ∧ BInv (natsI [1, 0]).length A2 ∧ liveA A2 ≤ 4351 ∧ Ext A1 A2 ∧ Rep A2 x (fixTo (natsI [1, 0]) 1 0 (FnS (natsI [1, 0]) 14) (natsI [1, 0]).length)) ∧ Hp w (fun _ => False) w' [arR ga r sv2 20000 A2] (bdM g ga co B (natsI [1, 0]) ++ [])) ?_ ?_
  · refine build46_1 ?_
    refine call_fn (c146 ho ho8 f 1 0 (by decide) (by decide) tf _ hA1 hok1 hl1 (by decide) (H.bdAt 0 rfl fun s hs => List.mem_append_left _ hs)) ?_
    rintro _ w3 ⟨A2, sv2, x, e, rfl, ⟨h1, h2, h3, h4, h5⟩, ht⟩
    rcases h5 with ⟨h5, _⟩ | ⟨_, rfl, h6⟩
    · exact absurd h5 (by decide)
    · rw [hs1] at h6
      exact ⟨(x, sv2, A2), ⟨rfl, rfl, trivial⟩, ⟨h1, h2, h4, h3, h6⟩, H.turnBy 0 rfl ht⟩
  clear H
  rintro ⟨x, sv2, A2⟩ u w3 ⟨⟨hok2, hA2, hl2, hx2, hr2⟩, H⟩
  replace H : Hp _ _ _ _ _ := H
  have hf2 := hr1.ext hA1.inv hA2.inv hx2
  have hs2 : sem A2 f = FnS (natsI [1, 0]) 14 := by funext a; exact hf2.says a
  have hxl := id_lt hok2 hr2.there
  refine cut_rule (γ := Nat) _ rfl (fun g7 => [(7, .pointer (some ⟨g7, 0, none⟩))]) (fun g7 w' => Hp w (fun _ => False) w' [arR ga r sv2 20000 A2, blk g7 24 (sc 12)] (bdM g ga co B (natsI [1, 0]) ++ [])) ?_ ?_
  · have hset : setD (natsI [1, 0]) A2 x = 12 := (setD_fix ho hr2).trans (by decide +kernel)
    have hc := c110b ho x (by omega) _ hA2 hok2 H.bdAt'
    rw [if_pos hr2.there, hset] at hc
    refine call_fn hc ?_
    rintro _ w4 ⟨rfl, hk⟩
    replace H := H.same hk
    clear hk
    refine H.alloc 24 (cs := sc 0) zero24 sc_zero ?_
    clear H
    intro g5 w4 H
    refine H.storeSet 0 rfl ?_
    clear H
    intro w5 H
    exact ⟨g5, ⟨rfl, trivial⟩, H.front 1 rfl⟩
  clear H
  rintro g7 u w4 H
  replace H : Hp _ _ _ _ _ := H
  refine cut_rule (γ := Value × Ar) _ rfl (fun _ => [(9, .int .i64 1), (10, .int .i64 0)]) (fun (sv3, A3) w' => (ArOk 20000 A3 ∧ BInv (natsI [1, 0]).length A3 ∧ liveA A3 ≤ 5631 ∧ Rep A3 f (FnS (natsI [1, 0]) 14)) ∧ Hp w (fun _ => False) w' [arR ga r sv3 20000 A3, blk g7 24 (sc 12)] (bdM g ga co B (natsI [1, 0]) ++ [])) ?_ ?_
  · refine call_fn (c147 ho ho8 f 1 0 hf2.there (by rw [lvl_end (.inr rfl)]; decide) _ hA2 hok2 hl2 (by decide) H.bdAt') ?_
    rintro _ w5 ⟨A3, sv3, y, e, rfl, ⟨h1, h2, h3, h4, h5⟩, ht⟩
    rcases h5 with ⟨h5, _⟩ | ⟨i, hi, _, rfl, h6⟩
    · exact absurd ⟨by decide, by decide⟩ h5
    · obtain rfl : i = 0 := by omega
      have hy : y = 1 := by
        refine rep_canon h2 h6 (rep_one.congr fun a => ?_)
        rw [sem_none (nd_end (.inr rfl)), hs2]
        symm
        exact low_two (F := fun a => halfF (FnS (natsI [1, 0]) 14) ((natsI [1, 0]).idxOf 0) true a) ((FnS_low ho 14).up _ _) (by decide +kernel) a
      subst hy
      exact ⟨(sv3, A3), ⟨rfl, rfl, trivial⟩, ⟨h1, h2, h4, hf2.ext hA2.inv h2.inv h3⟩, H.turnBy 0 rfl ht⟩
  clear H
  rintro ⟨sv3, A3⟩ u w5 ⟨⟨hok3, hA3, hl3, hr3⟩, H⟩
  replace H : Hp _ _ _ _ _ := H
  refine cut_rule (γ := Value × Ar) _ rfl (fun _ => [(11, .int .i64 3), (12, .int .i64 0)]) (fun (sv4, A4) w' => Hp w (fun _ => False) w' [arR ga r sv4 20000 A4, blk g7 24 (sc 12)] (bdM g ga co B (natsI [1, 0]) ++ [])) ?_ ?_
  · have hfl := id_lt hok3 hr3.there
    refine call_fn (c152 ho ho8 f (by omega) _ hA3 hok3 hl3 (by decide) H.bdAt') ?_
    rintro _ w6 ⟨A4, sv4, y, e, rfl, ⟨h1, h2, h3, h4⟩, ht⟩
    rcases h4 with ⟨h4, _⟩ | ⟨_, rfl, _, rfl⟩
    · exact absurd hr3.there h4
    · have hc3 : ((List.range (2 ^ (natsI [1, 0]).length)).countP fun p => sem A3 f (asgP (natsI [1, 0]) p)) = 3 := by
        rw [show sem A3 f = FnS (natsI [1, 0]) 14 from by funext a; exact hr3.says a]
        decide +kernel
      rw [hc3]
      exact ⟨(sv4, A4), ⟨rfl, rfl, trivial⟩, H.turnBy 0 rfl ht⟩
  clear H
  rintro ⟨sv4, A4⟩ u w6 H
  replace H : Hp _ _ _ _ _ := H
  iterate 7 refine cond_yes rfl ?_
  refine H.loadAll 1 rfl agg24 size24 ?_
  refine cond_yes rfl ?_
  refine build24_12 ?_
  refine cond_yes rfl ?_
  refine bin_eql24 (by first | assumption | decide) (by first | assumption | decide) ?_
  iterate 13 refine cond_yes rfl ?_
  exact ⟨rfl, H.keeps⟩
end Go.Proofs.Ytjebpngdinbckaa
end

section
/- Diagrams composed: the law of parts. -/
namespace Go.Proofs.Ytjebpngdinbckaa
open Go.Dk
attribute [local irreducible] IntKind.wrap

theorem fn_eqP {A : Ar} {f : Int} {F : Dk.Fn} (h : Rep A f F) : sem A f = F := by funext a; exact h.says a
theorem up_twice (a : Asg) (k : Nat) (b c : Bool) : upA (upA a k b) k c = upA a k c := by
  funext j; unfold upA; split <;> rfl
theorem up_swap (a : Asg) {k l : Nat} (h : k ≠ l) (b c : Bool) : upA (upA a k b) l c = upA (upA a l c) k b := by
  funext j
  unfold upA
  by_cases h1 : j = l
  · subst h1; rw [if_pos rfl, if_neg (Ne.symm h), if_pos rfl]
  · rw [if_neg h1, if_neg h1]
theorem idx_ne {o : List Nat} (ho : OrdO o) {i j : Nat} (hi : i < o.length) (hj : j < o.length) (h : i ≠ j) : o.idxOf i ≠ o.idxOf j := fun he => h (by
  have e1 := ho.get_idx hi
  have e2 := ho.get_idx hj
  rw [he] at e1; omega)
theorem fix_indep {o : List Nat} (ho : OrdO o) {m v : Nat} {F : Dk.Fn} {i : Nat} (hm : m.testBit i = true) : ∀ k, i < k → k ≤ o.length → Indep (fixTo o m v F k) (o.idxOf i)
  | 0, h, _ => by omega
  | k + 1, h, hk => fun a b => by
    rw [fixTo]
    by_cases hi : i = k
    · subst hi
      rw [if_pos hm]
      unfold halfF
      rw [up_twice]
    · have IH := fix_indep ho (v := v) (F := F) hm k (by omega) (by omega)
      split
      · unfold halfF
        rw [up_swap a (idx_ne ho (by omega) (by omega) hi)]
        exact IH _ _
      · exact IH _ _
theorem pow_bit (i k : Nat) : (2 ^ i).testBit k = decide (i = k) := Nat.testBit_two_pow
theorem fix_one {o : List Nat} (v : Nat) (F : Dk.Fn) (i : Nat) : ∀ k, fixTo o (2 ^ i) v F k = if i < k then halfF F (o.idxOf i) (v.testBit i) else F
  | 0 => by rw [if_neg (by omega)]; rfl
  | k + 1 => by
    rw [fixTo, pow_bit, fix_one v F i k]
    by_cases hi : i = k
    · subst hi
      rw [if_pos (decide_eq_true rfl), if_neg (by omega), if_pos (by omega)]
    · rw [if_neg (by simpa using hi)]
      by_cases h : i < k
      · rw [if_pos h, if_pos (by omega)]
      · rw [if_neg h, if_neg (by omega)]
theorem bits_one (i : Nat) : ∀ k, (bitsBelow (2 ^ i) k).length = if i < k then 1 else 0
  | 0 => by rw [if_neg (by omega)]; rfl
  | k + 1 => by
    rw [bitsBelow_succ, List.length_append, bits_one i k, pow_bit]
    by_cases hi : i = k
    · subst hi
      rw [if_neg (by omega), if_pos (decide_eq_true rfl), if_pos (by omega)]; rfl
    · have h1 : ¬ (decide (i = k) = true) := by simpa using hi
      rw [if_neg h1]
      by_cases h : i < k
      · rw [if_pos h, if_pos (by omega)]; rfl
      · rw [if_neg h, if_neg (by omega)]; rfl
theorem bits_one_le (i k : Nat) : (bitsBelow (2 ^ i) k).length ≤ 1 := by rw [bits_one]; split <;> omega
theorem point_fn {o : List Nat} (ho : OrdO o) {i : Nat} (hi : i < o.length) : FnS o (refP (2 ^ i) (2 ^ i) o.length) = fun a => a (o.idxOf i) := by
  funext a
  have hp := ptA_lt o a
  have h256 := pow_le_256 ho.le
  have h8 := ho.le
  unfold FnS refP
  rw [testBit_setOf, decide_eq_true (show ptA o a < 256 by omega), decide_eq_true hp, Bool.true_and, Bool.true_and, ← testBit_ptA a hi, Bool.eq_iff_iff]
  unfold hasC
  rw [List.all_eq_true]
  constructor
  · intro h
    have := h i (List.mem_range.2 (by omega))
    rw [pow_bit, decide_eq_true rfl] at this
    simpa using this
  · intro h j _
    rw [pow_bit]
    by_cases hj : i = j
    · subst hj; rw [decide_eq_true rfl, h]; rfl
    · rw [decide_eq_false hj]; rfl
theorem parts_fn (F : Dk.Fn) (l : Nat) : (fun a : Asg => if a l then halfF F l true a else halfF F l false a) = F := by
  funext a
  unfold halfF
  have h := upA_self a l
  cases ha : a l <;> rw [ha] at h <;> simp [h]
theorem refP_within (m v n : Nat) : lessN (refP m v n) (allN n) = 0 := by
  refine set_ext (setOf_lt _) (by decide) fun p hp => ?_
  rw [testBit_lessN (show refP m v n < 2 ^ 256 from setOf_lt _), Nat.zero_testBit]
  unfold refP allN
  rw [testBit_setOf, testBit_setOf]
  cases decide (p < 256) <;> cases decide (p < 2 ^ n) <;> simp
theorem right_one {i n : Nat} (hi : i < n) (hn : n ≤ 8) {v : Nat} (hv : v &&& 2 ^ i = v) (hv8 : v < 256) : rightN (2 ^ i) v n = true := by
  have h1 : 2 ^ i < 2 ^ n := Nat.pow_lt_pow_right (by decide) hi
  have h256 := pow_le_256 hn
  rw [rightN_iff (by omega) hv8, Int.toNat_natCast]
  exact ⟨by omega, by omega, h1, hv⟩
theorem build46m {c : Nat} {w : World} {kk : Value → World → Prop} (h : kk (cv c 0) w) : buildK Try.prog 46 [(0, .int .u8 (c : Int))] w kk := build_by (fun w => by kernel_rfl) h
theorem ent34 : enters Try.prog 34 = true := by kernel_rfl
theorem law34_m (ks : List Int) (B : Option Addr) (c : Nat) (s : Nat) (hs : s < 2 ^ 256) (m v : Nat) (hm : m < 256) (hv : v < 256) (z : Nat) (hz : z < 256) (w : World) (hl : ks.length ≤ 9223372036854775807) (hS : Sl w (.slice B ks.length c) 1 ks.length (intsI ks)) :
    Fun Try.prog 34 [.slice B ks.length c, sv s, cv m v, .int .u8 (z : Int)] w fun v w' => v = .bool true ∧ Same w w' := by
  refine fun_of_W (N := 163) Try.func34 ent34 rfl rfl rfl (by simp) ?_
  have H := Hp.start0 w
  refine cut_rule (γ := Nat × Nat) _ rfl (fun (g5, g6) => [(5, .pointer (some ⟨g5, 0, none⟩)), (6, .pointer (some ⟨g6, 0, none⟩))]) (fun (g5, g6) w' => Hp w (fun _ => False) w' [blk g6 46 (cc m v), blk g5 24 (sc s)] []) ?_ ?_
  · refine H.box 24 (sv s) (cs := sc s) rfl ?_
    clear H
    intro g5 w1 H
    refine H.box 46 (cv m v) (cs := cc m v) rfl ?_
    clear H
    intro g6 w3 H
    exact ⟨(g5, g6), ⟨rfl, rfl, trivial⟩, H⟩
  clear H
  rintro ⟨g5, g6⟩ u w1 H
  replace H : Hp _ _ _ _ _ := H
  have hlen : (natsI ks).length = ks.length := by simp [natsI]
  refine cut_rule (γ := Bool × Nat × Nat × Nat × Nat × Option Addr × Value × Ar × Int) _ rfl (fun (ok, g, ga, r, co, B', sv1, A, f) => [(9, if ok then .pointer (some ⟨g, 0, none⟩) else .pointer none), (10, .int .i64 f), (12, .bool ok)])
    (fun (ok, g, ga, r, co, B', sv1, A, f) w' => (ok = false ∧ Hp w (fun _ => False) w' [blk g6 46 (cc m v), blk g5 24 (sc s)] []) ∨ (ok = true ∧ MayT ks s 0 ∧ (ArOk 20000 A ∧ BInv (natsI ks).length A ∧ liveA A ≤ 510 ∧ Rep A f (FnS (natsI ks) s)) ∧ Hp w (fun _ => False) w' [arR ga r sv1 20000 A, blk g6 46 (cc m v), blk g5 24 (sc s)] (bdM g ga co B' (natsI ks) ++ []))) ?_ ?_
  · refine H.loadAll 1 rfl agg24 size24 ?_
    refine build24z ?_
    refine call_fn (c144 ks B c s 0 hs (by decide) _ hl (hS.same H.keeps)) ?_
    rintro _ w2 (⟨_, rfl, hk⟩ | ⟨hmay, g, ga, r, co, B', sv1, A, f, h, rfl, ⟨h1, h2, h3, h4, _⟩, hn⟩)
    · exact ⟨(false, 0, 0, 0, 0, none, .bool false, [], 0), ⟨rfl, rfl, rfl, trivial⟩, .inl ⟨rfl, H.same hk⟩⟩
    · exact ⟨(true, g, ga, r, co, B', sv1, A, f), ⟨rfl, rfl, rfl, trivial⟩, .inr ⟨rfl, hmay, ⟨h1, h2, h3, h4⟩, (H.addNew hn).bdOpen⟩⟩
  clear H
  rintro ⟨ok, g, ga, r, co, B', sv1, A, f⟩ u w2 (⟨hok, H⟩ | ⟨hok, hmay, ⟨hok1, hA1, hl1, hr1⟩, H⟩)
  · replace H : Hp _ _ _ _ _ := H
    replace hok : ok = false := hok
    subst hok
    iterate 5 refine cond_yes rfl ?_
    refine call_fn (c145 _) ?_
    rintro _ w10 ⟨rfl, hk⟩
    replace H := H.same hk
    clear hk
    refine cond_yes rfl ?_
    exact ⟨rfl, H.keeps⟩
  replace H : Hp _ _ _ _ _ := H
  replace hok : ok = true := hok
  subst hok
  refine cut_rule (γ := Unit) _ rfl (fun _ => []) (fun _ w' => Hp w (fun _ => False) w' [arR ga r sv1 20000 A, blk g6 46 (cc m v), blk g5 24 (sc s)] (bdM g ga co B' (natsI ks) ++ [])) ?_ ?_
  · iterate 2 refine cond_no rfl ?_
    refine bin_eql123 ?_
    iterate 2 refine cond_no rfl ?_
    exact ⟨(), trivial, H⟩
  clear H
  rintro ⟨⟩ u w2 H
  replace H : Hp _ _ _ _ _ := H
  have ho := hmay.1.nats
  have ho8 : (natsI ks).length ≤ 8 := ho.le
  refine cut_rule (γ := Unit) _ rfl (fun _ => [(13, .int .i64 ((natsI ks).length : Int))]) (fun _ w' => Hp w (fun _ => False) w' [arR ga r sv1 20000 A, blk g6 46 (cc m v), blk g5 24 (sc s)] (bdM g ga co B' (natsI ks) ++ [])) ?_ ?_
  · refine len_sl Try.underlying32 ?_
    exact ⟨(), ⟨congrArg (fun n : Nat => Value.int .i64 (n : Int)) hlen.symm, trivial⟩, H⟩
  clear H
  rintro ⟨⟩ u w3 H
  replace H : Hp _ _ _ _ _ := H
  refine cut_rule (γ := Int × Int × Value × Ar) _ rfl (fun (x, e, _) => [(14, .int .i64 x), (15, .int .i64 e)]) (fun (x, e, sv2, A2) w' => (ArOk 20000 A2 ∧ BInv (natsI ks).length A2 ∧ liveA A2 ≤ 4606 ∧ Rep A2 f (FnS (natsI ks) s) ∧ 0 ≤ lvlA A2 x ∧ (e = 1 ∨ (e = 0 ∧ Rep A2 x (fixTo (natsI ks) m v (FnS (natsI ks) s) (natsI ks).length)))) ∧ Hp w (fun _ => False) w' [arR ga r sv2 20000 A2, blk g6 46 (cc m v), blk g5 24 (sc s)] (bdM g ga co B' (natsI ks) ++ [])) ?_ ?_
  · refine H.loadAll 1 rfl agg46 size46 ?_
    refine call_fn (c146 ho ho8 f m v hm hv hr1.there _ hA1 hok1 hl1 (by decide) H.bdAt') ?_
    rintro _ w4 ⟨A2, sv2, x, e, rfl, ⟨h1, h2, h3, h4, h5⟩, ht⟩
    rw [fn_eqP hr1] at h5
    refine ⟨(x, e, sv2, A2), ⟨rfl, rfl, trivial⟩, ⟨h1, h2, h4, hr1.ext hA1.inv h2.inv h3, ?_, ?_⟩, H.turnBy 0 rfl ht⟩
    · rcases h5 with ⟨_, rfl, _⟩ | ⟨_, _, h6⟩
      · show 0 ≤ lvlA A2 0; rw [lvl_end (.inl rfl)]; decide
      · exact h6.there
    · rcases h5 with ⟨_, _, rfl⟩ | ⟨_, rfl, h6⟩
      · exact .inl rfl
      · exact .inr ⟨rfl, h6⟩
  clear H hok1 hA1 hl1 hr1
  rintro ⟨x, e, sv2, A2⟩ u w4 ⟨⟨hok2, hA2, hl2, hr2, tx, hx⟩, H⟩
  replace H : Hp _ _ _ _ _ := H
  replace hx : e = 1 ∨ (e = 0 ∧ Rep A2 x (fixTo (natsI ks) m v (FnS (natsI ks) s) (natsI ks).length)) := hx
  refine cut_rule (γ := Nat × Value × Ar) _ rfl (fun (h, _) => [(16, .int .u8 (h : Int))]) (fun (h, sv3, A3) w' => (ArOk 20000 A3 ∧ BInv (natsI ks).length A3 ∧ liveA A3 ≤ 12798 ∧ Rep A3 f (FnS (natsI ks) s) ∧ h < 256 ∧ (e = 0 → ∀ j, h.testBit j = true → m.testBit j = false)) ∧ Hp w (fun _ => False) w' [arR ga r sv3 20000 A3, blk g6 46 (cc m v), blk g5 24 (sc s)] (bdM g ga co B' (natsI ks) ++ [])) ?_ ?_
  · refine call_fn (c150 ho ho8 x tx _ hA2 hok2 hl2 (by decide) H.bdAt') ?_
    rintro _ w5 ⟨A3, sv3, h, rfl, ⟨h1, h2, h3, h4, h5, h6⟩, ht⟩
    refine ⟨(h, sv3, A3), ⟨rfl, trivial⟩, ⟨h1, h2, h4, hr2.ext hA2.inv h2.inv h3, h5, fun he j hj => ?_⟩, H.turnBy 0 rfl ht⟩
    rcases hx with he1 | ⟨_, hx⟩
    · rw [he] at he1; exact absurd he1 (by decide)
    · obtain ⟨hjn, hni⟩ := (h6 j).1 hj
      rw [fn_eqP hx] at hni
      rw [Bool.eq_false_iff]
      exact fun hmj => hni (fix_indep ho hmj _ hjn (Nat.le_refl _))
  clear H hok2 hA2 hl2 hr2 tx
  rintro ⟨h, sv3, A3⟩ u w5 ⟨⟨hok3, hA3, hl3, hr3, hh, hbits⟩, H⟩
  replace H : Hp _ _ _ _ _ := H
  replace hbits : e = 0 → ∀ j, h.testBit j = true → m.testBit j = false := hbits
  refine cut_rule (γ := Unit) _ rfl (fun _ => []) (fun _ w' => Hp w (fun _ => False) w' [arR ga r sv3 20000 A3, blk g6 46 (cc m v), blk g5 24 (sc s)] (bdM g ga co B' (natsI ks) ++ [])) ?_ ?_
  · rcases hx with rfl | ⟨rfl, hx⟩
    · refine cond_no rfl ?_
      exact ⟨(), trivial, H⟩
    · refine cond_yes rfl ?_
      refine loop_rule (γ := Nat) _ rfl (fun j => [(18, .int .i64 (j : Int))]) (fun j w' => j ≤ 8 ∧ Hp w (fun _ => False) w' [arR ga r sv3 20000 A3, blk g6 46 (cc m v), blk g5 24 (sc s)] (bdM g ga co B' (natsI ks) ++ [])) (fun j => 8 - j) 0 ⟨rfl, trivial⟩ ⟨by omega, H⟩ ?_
      clear H
      rintro j u w6 ⟨hj, H⟩
      replace H : Hp _ _ _ _ _ := H
      refine cond_dec (fun h7 => ?_) (fun h7 => ?_)
      · refine call_fn (c151 h j hh (by omega) _) ?_
        rintro _ w7 ⟨rfl, hk⟩
        replace H := H.same hk
        clear hk
        cases hb : h.testBit j with
        | false =>
          iterate 6 refine cond_no rfl ?_
          exact ⟨j + 1, by show 8 - (j + 1) < 8 - j; omega, ⟨up (by omega), trivial⟩, by show j + 1 ≤ 8; omega, H⟩
        | true =>
          have hmj := hbits rfl j hb
          refine cond_yes rfl ?_
          refine fieldAddr_by (fa46_0 _) ?_
          refine cond_yes rfl ?_
          refine H.load 1 rfl agg5 rfl ?_
          iterate 2 refine cond_yes rfl ?_
          refine call_fn (c151 m j hm (by omega) _) ?_
          rintro _ w8 ⟨rfl, hk⟩
          replace H := H.same hk
          clear hk
          rw [hmj]
          refine cond_yes rfl ?_
          refine cond_no rfl ?_
          exact ⟨j + 1, by show 8 - (j + 1) < 8 - j; omega, ⟨up (by omega), trivial⟩, by show j + 1 ≤ 8; omega, H⟩
      · exact ⟨(), trivial, H⟩
  clear H
  rintro ⟨⟩ u w6 H
  replace H : Hp _ _ _ _ _ := H
  by_cases hn0 : (natsI ks).length = 0
  · refine cond_yes (by rw [hn0]; rfl) ?_
    refine call_fn (c145 _) ?_
    rintro _ w7 ⟨rfl, hk⟩
    replace H := H.same hk
    clear hk
    exact ⟨rfl, H.keeps⟩
  refine cut_rule (γ := Unit) _ rfl (fun _ => []) (fun _ w' => Hp w (fun _ => False) w' [arR ga r sv3 20000 A3, blk g6 46 (cc m v), blk g5 24 (sc s)] (bdM g ga co B' (natsI ks) ++ [])) ?_ ?_
  · refine cond_no (by simpa using hn0) ?_
    exact ⟨(), trivial, H⟩
  clear H
  rintro ⟨⟩ u w6 H
  replace H : Hp _ _ _ _ _ := H
  have hi : z % (natsI ks).length < (natsI ks).length := Nat.mod_lt _ (by omega)
  generalize hzi : z % (natsI ks).length = i at hi
  refine cut_rule (γ := Unit) _ rfl (fun _ => [(19, .int .i64 (i : Int))]) (fun _ w' => Hp w (fun _ => False) w' [arR ga r sv3 20000 A3, blk g6 46 (cc m v), blk g5 24 (sc s)] (bdM g ga co B' (natsI ks) ++ [])) ?_ ?_
  · refine conv_i64 (by kernel_rfl) Try.underlying3 (by omega) (by omega) ?_
    refine bin_rem_i64 (by omega) (by omega) ?_
    exact ⟨(), ⟨congrArg (Value.int .i64) (by rw [← hzi]; rfl), trivial⟩, H⟩
  clear H
  rintro ⟨⟩ u w7 H
  replace H : Hp _ _ _ _ _ := H
  refine cut_rule (γ := Unit) _ rfl (fun _ => [(20, .int .u8 1)]) (fun _ w' => Hp w (fun _ => False) w' [arR ga r sv3 20000 A3, blk g6 46 (cc m v), blk g5 24 (sc s)] (bdM g ga co B' (natsI ks) ++ [])) ⟨(), ⟨rfl, trivial⟩, H⟩ ?_
  clear H
  rintro ⟨⟩ u w7 H
  replace H : Hp _ _ _ _ _ := H
  have h128 : 2 ^ i < 256 := by have := Nat.pow_lt_pow_right (a := 2) (by decide) (show i < 8 by omega); simpa using this
  refine cut_rule (γ := Unit) _ rfl (fun _ => [(20, .int .u8 ((2 ^ i : Nat) : Int))]) (fun _ w' => Hp w (fun _ => False) w' [arR ga r sv3 20000 A3, blk g6 46 (cc m v), blk g5 24 (sc s)] (bdM g ga co B' (natsI ks) ++ [])) ?_ ?_
  · refine loop_rule (γ := Nat) _ rfl (fun j => [(21, .int .i64 (j : Int)), (20, .int .u8 ((2 ^ j : Nat) : Int))]) (fun j w' => j ≤ i ∧ Hp w (fun _ => False) w' [arR ga r sv3 20000 A3, blk g6 46 (cc m v), blk g5 24 (sc s)] (bdM g ga co B' (natsI ks) ++ [])) (fun j => i - j) 0 ⟨rfl, rfl, trivial⟩ ⟨Nat.zero_le _, H⟩ ?_
    clear H
    rintro j u w8 ⟨hj, H⟩
    replace H : Hp _ _ _ _ _ := H
    refine cond_dec (fun h9 => ?_) (fun h9 => ?_)
    · have h2 : 2 ^ (j + 1) ≤ 2 ^ i := Nat.pow_le_pow_right (by decide) (by omega)
      have e2 : 2 ^ (j + 1) = 2 ^ j * 2 := Nat.pow_succ ..
      exact ⟨j + 1, by show i - (j + 1) < i - j; omega, ⟨up (by omega), congrArg (Value.int .u8) (by rw [wrap_u8_in (by omega) (by omega)]; omega), trivial⟩, by show j + 1 ≤ i; omega, H⟩
    · obtain rfl : j = i := by omega
      exact ⟨(), ⟨rfl, trivial⟩, H⟩
  clear H
  rintro ⟨⟩ u w8 H
  replace H : Hp _ _ _ _ _ := H
  have pand : 2 ^ i &&& 2 ^ i = 2 ^ i := Nat.and_self _
  have hro := right_one hi ho8 pand h128
  have hrz := right_one hi ho8 (Nat.zero_and _) (show 0 < 256 by decide)
  have b1 := bits_one_le i (natsI ks).length
  refine cut_rule (γ := Int × Value × Ar) _ rfl (fun (x, _) => [(22, .int .i64 x)]) (fun (x, sv4, A4) w' => (ArOk 20000 A4 ∧ BInv (natsI ks).length A4 ∧ liveA A4 ≤ 13053 ∧ Rep A4 f (FnS (natsI ks) s) ∧ Rep A4 x (fun a => a ((natsI ks).idxOf i))) ∧ Hp w (fun _ => False) w' [arR ga r sv4 20000 A4, blk g6 46 (cc m v), blk g5 24 (sc s)] (bdM g ga co B' (natsI ks) ++ [])) ?_ ?_
  · refine build46 ?_
    refine call_fn (c60 (2 ^ i) (2 ^ i) h128 h128 (natsI ks).length ho8 _) ?_
    rintro _ w9 ⟨rfl, hk⟩
    replace H := H.same hk
    clear hk
    refine call_fn (c108 ho ho8 (show refP (2 ^ i) (2 ^ i) (natsI ks).length < 2 ^ 256 from setOf_lt _) _ hA3 hok3 H.bdAt') ?_
    rintro _ w10 ⟨A4, sv4, x, e', rfl, (⟨hno, _⟩ | ⟨_, hmd⟩), hok4, ht⟩
    · exact absurd (refP_within _ _ _) hno
    · obtain ⟨rfl, h2, h3⟩ := made_small hmd (FnS_low ho _) ho8 hl3 (by decide)
      replace h2 : Rep A4 x (FnS (natsI ks) (refP (2 ^ i) (2 ^ i) (natsI ks).length)) := h2
      rw [point_fn ho hi] at h2
      exact ⟨(x, sv4, A4), ⟨rfl, trivial⟩, ⟨hok4, hmd.inv, h3, hr3.ext hA3.inv hmd.inv.inv hmd.ext, h2⟩, H.turnBy 0 rfl ht⟩
  clear H hok3 hA3 hl3 hr3
  rintro ⟨one, sv4, A4⟩ u w9 ⟨⟨hok4, hA4, hl4, hr4, hone4⟩, H⟩
  replace H : Hp _ _ _ _ _ := H
  refine cut_rule (γ := Int × Value × Ar) _ rfl (fun (x, _) => [(24, .int .i64 x)]) (fun (x, sv5, A5) w' => (ArOk 20000 A5 ∧ BInv (natsI ks).length A5 ∧ liveA A5 ≤ 13565 ∧ Rep A5 f (FnS (natsI ks) s) ∧ Rep A5 one (fun a => a ((natsI ks).idxOf i)) ∧ Rep A5 x (halfF (FnS (natsI ks) s) ((natsI ks).idxOf i) false)) ∧ Hp w (fun _ => False) w' [arR ga r sv5 20000 A5, blk g6 46 (cc m v), blk g5 24 (sc s)] (bdM g ga co B' (natsI ks) ++ [])) ?_ ?_
  · refine build46m ?_
    refine call_fn (c146b ho ho8 f (2 ^ i) 0 h128 (by decide) hr4.there _ hA4 hok4 hl4 (by decide) H.bdAt') ?_
    rintro _ w10 ⟨A5, sv5, x, e', rfl, ⟨h1, h2, h3, h4, h5⟩, ht⟩
    rcases h5 with ⟨h5, _⟩ | ⟨_, rfl, h6⟩
    · rw [hrz] at h5; cases h5
    · rw [fn_eqP hr4, fix_one, if_pos hi, Nat.zero_testBit] at h6
      exact ⟨(x, sv5, A5), ⟨rfl, trivial⟩, ⟨h1, h2, by omega, hr4.ext hA4.inv h2.inv h3, hone4.ext hA4.inv h2.inv h3, h6⟩, H.turnBy 0 rfl ht⟩
  clear H hok4 hA4 hl4 hr4 hone4
  rintro ⟨low, sv5, A5⟩ u w10 ⟨⟨hok5, hA5, hl5, hr5, hone5, hlow5⟩, H⟩
  replace H : Hp _ _ _ _ _ := H
  refine cut_rule (γ := Int × Value × Ar) _ rfl (fun (x, _) => [(26, .int .i64 x)]) (fun (x, sv6, A6) w' => (ArOk 20000 A6 ∧ BInv (natsI ks).length A6 ∧ liveA A6 ≤ 14077 ∧ Rep A6 f (FnS (natsI ks) s) ∧ Rep A6 one (fun a => a ((natsI ks).idxOf i)) ∧ Rep A6 low (halfF (FnS (natsI ks) s) ((natsI ks).idxOf i) false) ∧ Rep A6 x (halfF (FnS (natsI ks) s) ((natsI ks).idxOf i) true)) ∧ Hp w (fun _ => False) w' [arR ga r sv6 20000 A6, blk g6 46 (cc m v), blk g5 24 (sc s)] (bdM g ga co B' (natsI ks) ++ [])) ?_ ?_
  · refine build46 ?_
    refine call_fn (c146b ho ho8 f (2 ^ i) (2 ^ i) h128 h128 hr5.there _ hA5 hok5 hl5 (by decide) H.bdAt') ?_
    rintro _ w11 ⟨A6, sv6, x, e', rfl, ⟨h1, h2, h3, h4, h5⟩, ht⟩
    rcases h5 with ⟨h5, _⟩ | ⟨_, rfl, h6⟩
    · rw [hro] at h5; cases h5
    · rw [fn_eqP hr5, fix_one, if_pos hi, pow_bit, decide_eq_true rfl] at h6
      exact ⟨(x, sv6, A6), ⟨rfl, trivial⟩, ⟨h1, h2, by omega, hr5.ext hA5.inv h2.inv h3, hone5.ext hA5.inv h2.inv h3, hlow5.ext hA5.inv h2.inv h3, h6⟩, H.turnBy 0 rfl ht⟩
  clear H hok5 hA5 hl5 hr5 hone5 hlow5
  rintro ⟨high, sv6, A6⟩ u w11 ⟨⟨hok6, hA6, hl6, hr6, hone6, hlow6, hhigh6⟩, H⟩
  replace H : Hp _ _ _ _ _ := H
  refine cut_rule (γ := Value × Ar) _ rfl (fun _ => [(28, .int .i64 f), (29, .int .i64 0)]) (fun (sv7, A7) w' => (ArOk 20000 A7 ∧ BInv (natsI ks).length A7 ∧ liveA A7 ≤ 14332 ∧ Rep A7 f (FnS (natsI ks) s) ∧ Rep A7 one (fun a => a ((natsI ks).idxOf i))) ∧ Hp w (fun _ => False) w' [arR ga r sv7 20000 A7, blk g6 46 (cc m v), blk g5 24 (sc s)] (bdM g ga co B' (natsI ks) ++ [])) ?_ ?_
  · have l1 := id_lt hok6 hone6.there
    have l2 := id_lt hok6 hlow6.there
    have l3 := id_lt hok6 hhigh6.there
    refine call_fn (c117 ho8 one high low (by omega) (by omega) (by omega) _ hA6 hok6 H.bdAt') ?_
    rintro _ w12 ⟨A7, sv7, id, e', rfl, hmd, hok7, ht⟩
    have hmd := hmd.made hone6.there hhigh6.there hlow6.there
    obtain ⟨rfl, h2, h3⟩ := made_small hmd (iteF_low hA6 _ _ _) ho8 hl6 (by decide)
    rw [ite3 hone6 hhigh6 hlow6, parts_fn] at h2
    have hr7 := hr6.ext hA6.inv hmd.inv.inv hmd.ext
    obtain rfl : id = f := rep_canon hmd.inv h2 hr7
    exact ⟨(sv7, A7), ⟨rfl, rfl, trivial⟩, ⟨hok7, hmd.inv, h3, hr7, hone6.ext hA6.inv hmd.inv.inv hmd.ext⟩, H.turnBy 0 rfl ht⟩
  clear H hok6 hA6 hl6 hr6 hone6 hlow6 hhigh6
  rintro ⟨sv7, A7⟩ u w12 ⟨⟨hok7, hA7, hl7, hr7, hone7⟩, H⟩
  replace H : Hp _ _ _ _ _ := H
  refine cut_rule (γ := Value × Ar) _ rfl (fun _ => [(30, .int .i64 f), (31, .int .i64 0)]) (fun (sv8, A8) w' => Hp w (fun _ => False) w' [arR ga r sv8 20000 A8, blk g6 46 (cc m v), blk g5 24 (sc s)] (bdM g ga co B' (natsI ks) ++ [])) ?_ ?_
  · refine call_fn (c147 ho ho8 f one (i : Int) hr7.there hone7.there _ hA7 hok7 hl7 (by decide) H.bdAt') ?_
    rintro _ w13 ⟨A8, sv8, id, e', rfl, ⟨h1, h2, h3, h4, h5⟩, ht⟩
    rcases h5 with ⟨h5, _⟩ | ⟨j, hj, _, rfl, h6⟩
    · exact absurd ⟨by omega, by omega⟩ h5
    · obtain rfl : i = j := by omega
      rw [fn_eqP hr7, fn_eqP hone7, parts_fn] at h6
      obtain rfl : id = f := rep_canon h2 h6 (hr7.ext hA7.inv h2.inv h3)
      exact ⟨(sv8, A8), ⟨rfl, rfl, trivial⟩, H.turnBy 0 rfl ht⟩
  clear H
  rintro ⟨sv8, A8⟩ u w13 H
  replace H : Hp _ _ _ _ _ := H
  iterate 3 refine cond_yes (beq_self_eq_true _) ?_
  iterate 4 refine cond_yes rfl ?_
  iterate 3 refine cond_yes (beq_self_eq_true _) ?_
  refine cond_yes rfl ?_
  refine call_fn (c145 _) ?_
  rintro _ w25 ⟨rfl, hk⟩
  replace H := H.same hk
  clear hk
  refine cond_yes rfl ?_
  exact ⟨rfl, H.keeps⟩
theorem law34 (x : Value) (s : Nat) (hs : s < 2 ^ 256) (m v : Nat) (hm : m < 256) (hv : v < 256) (z : Nat) (hz : z < 256) (w : World) {ks : List Int} (hk : IntsAt w x ks) : Fun Try.prog 34 [x, sv s, cv m v, .int .u8 (z : Int)] w fun v w' => v = .bool true ∧ Same w w' := by
  obtain ⟨B, c, rfl, hl, _, hS⟩ := hk
  exact law34_m ks B c s hs m v hm hv z hz w hl hS
end Go.Proofs.Ytjebpngdinbckaa
end

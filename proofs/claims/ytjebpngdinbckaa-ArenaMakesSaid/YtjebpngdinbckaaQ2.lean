import Derived.Test.YtjebpngdinbckaaQ
/- Cubes: the functions of package cube, and the document's. -/
namespace Go.Proofs.Ytjebpngdinbckaa
open Go.Dk
attribute [local irreducible] IntKind.wrap

theorem T192 : SlT Try.prog 192 5 (.int .u8 0) 1 1 := ⟨Try.underlying192, by kernel_rfl, rfl, by decide⟩
theorem ints_snoc (l : List Nat) (x : Nat) : ints l ++ [.int .i64 (x : Int)] = ints (l ++ [x]) := by simp [ints]
theorem half_pow (k : IntKind) (x i : Nat) : Value.int k ((x / 2 ^ i / 2 : Nat) : Int) = Value.int k ((x / 2 ^ (i + 1) : Nat) : Int) := by
  rw [Nat.div_div_eq_div_mul, Nat.pow_succ]
theorem bit_mod (m i : Nat) : m / 2 ^ i % 2 = if m.testBit i then 1 else 0 := by
  rw [Nat.testBit_eq_decide_div_mod_eq]
  generalize m / 2 ^ i = q
  by_cases h : q % 2 = 1
  · simp [h]
  · simp [h]; omega
theorem pow_div_lt {m : Nat} (hm : m < 256) (i : Nat) : m / 2 ^ i < 256 := Nat.lt_of_le_of_lt (Nat.div_le_self _ _) hm
theorem madeBytes (n : Nat) : (madeCells (Value.int .u8 0).cells (n * 1)).toList = bytesV (List.replicate n 0) := by
  rw [Nat.mul_one, show (Value.int .u8 0).cells = #[.int .u8 0] from rfl, toList_madeCells_one, bytesV, List.map_replicate]; rfl
def textP (m v n i : Nat) : List UInt8 := textL m v i ++ List.replicate (n - i) 0
theorem textP_length (m v : Nat) {n i : Nat} (hi : i ≤ n) : (textP m v n i).length = n := by simp [textP, textL]; omega
theorem textP_set {m v n i : Nat} (hi : i < n) : (textP m v n i).set i (chN m v i) = textP m v n (i + 1) := by
  unfold textP
  rw [textL_succ, List.set_append_right _ _ (by rw [textL_length]; exact Nat.le_refl _), textL_length, Nat.sub_self, show n - i = (n - (i + 1)) + 1 by omega, List.replicate_succ, List.set_cons_zero]
  simp
theorem bytesV_set (l : List UInt8) (i : Nat) (b : UInt8) : (bytesV l).set i (.int .u8 (b.toNat : Int)) = bytesV (l.set i b) := by simp [bytesV, List.map_set]
theorem cc_set0 {a b a' : Nat} {x : Int} (h : x = (a' : Int)) : (cc a b).setIfInBounds 0 (.int .u8 x) = cc a' b := by subst h; rfl
theorem cc_set1 {a b b' : Nat} {x : Int} (h : x = (b' : Int)) : (cc a b).setIfInBounds 1 (.int .u8 x) = cc a b' := by subst h; rfl
theorem div_pow0 (k : IntKind) (m : Nat) : Value.int k (m : Int) = Value.int k ((m / 2 ^ 0 : Nat) : Int) := by rw [Nat.pow_zero, Nat.div_one]
theorem two_pow8 {i : Nat} (hi : i < 8) : 2 ^ i % 256 = 2 ^ i ∧ 2 ^ i ≤ 128 := by
  have : ∀ i, i < 8 → 2 ^ i % 256 = 2 ^ i ∧ 2 ^ i ≤ 128 := by decide
  exact this i hi
theorem stepM {f : Nat → Bool} {i : Nat} (hi : i < 8) (hf : f i = true) : IntKind.u8.wrap ((mkSet f i : Int) + ((2 ^ i % 256 : Nat) : Int)) = ((mkSet f (i + 1) : Nat) : Int) := by
  have h1 := two_pow8 hi
  have h2 := mkSet_lt f i
  rw [IntKind.wrap_u8, mkSet, hf, h1.1]
  generalize 2 ^ i = p at *
  simp only [if_true]
  omega
theorem stepV {f : Nat → Bool} {i x : Nat} (hi : i < 8) (hx : x < 2) (hf : f i = decide (x = 1)) : IntKind.u8.wrap ((mkSet f i : Int) + IntKind.u8.wrap (((2 ^ i % 256 : Nat) : Int) * (x : Int))) = ((mkSet f (i + 1) : Nat) : Int) := by
  have h1 := two_pow8 hi
  have h2 := mkSet_lt f i
  rw [IntKind.wrap_u8, IntKind.wrap_u8, mkSet, hf, h1.1]
  generalize 2 ^ i = p at *
  rcases (show x = 0 ∨ x = 1 by omega) with rfl | rfl
  · simp; omega
  · simp; omega
theorem stepP {i : Nat} (hi : i < 8) : Value.int .u8 (IntKind.u8.wrap (((2 ^ i % 256 : Nat) : Int) * 2)) = Value.int .u8 ((2 ^ (i + 1) % 256 : Nat) : Int) := by
  have h1 := two_pow8 hi
  rw [IntKind.wrap_u8, h1.1, Nat.pow_succ]
  generalize 2 ^ i = p at *
  congr 1
theorem bit_clear {m i : Nat} (h : ((m / 2 ^ i &&& 1 : Nat) : Int) = 0) : m.testBit i = false := by
  have := bit_u8 m i; rw [beq_iff_eq.2 h] at this; simpa using this.symm
theorem bit_set {m i : Nat} (h : ¬ ((m / 2 ^ i &&& 1 : Nat) : Int) = 0) : m.testBit i = true := by
  have := bit_u8 m i; rw [beq_eq_false_iff_ne.2 h] at this; simpa using this.symm
theorem mod_clear {m i : Nat} (h : ((m / 2 ^ i % 2 : Nat) : Int) = 0) : m.testBit i = false := by
  have := bit_mod m i; rw [show m / 2 ^ i % 2 = 0 by exact_mod_cast h] at this; cases hb : m.testBit i <;> simp_all
theorem mod_set {m i : Nat} (h : ¬ ((m / 2 ^ i % 2 : Nat) : Int) = 0) : m.testBit i = true := by
  have := bit_mod m i
  cases hb : m.testBit i
  · rw [hb] at this; exact absurd (by exact_mod_cast this) h
  · rfl
theorem ent162 : enters Try.prog 162 = true := by kernel_rfl
theorem c162 (m v : Nat) (hm : m < 256) (hv : v < 256) (w : World) : Fun Try.prog 162 [cv m v] w fun r w' => ∃ A c, r = .slice A 8 c ∧ NewR w w' (own 3 1 (.slice A 8 c) 8 (ints (lits m v))) := by
  refine fun_of_W (N := 32) Try.func162 ent162 rfl rfl rfl (by simp) ?_
  have H := Hp.start0 w
  refine H.box 46 (cv _ _) (cs := cc _ _) rfl ?_
  clear H
  intro g1 w1 H
  refine H.draw fol (by kernel_rfl) ?_
  clear H
  intro w2 H
  refine quiet _ (fun w H => fieldAddr_by (fa46_0 _) ⟨rfl, rfl⟩) ?_
  refine quiet _ (fun w H => H.load 0 rfl agg5 rfl ⟨rfl, rfl⟩) ?_
  refine quiet _ (fun w H => fieldAddr_by (fa46_1 _) ⟨rfl, rfl⟩) ?_
  refine quiet _ (fun w H => H.load 0 rfl agg5 rfl ⟨rfl, rfl⟩) ?_
  have H := H.ownNil 3 1
  refine loop_rule (γ := Nat × Option Addr × Nat) _ rfl (fun (i, A, c) => [(6, .int .i64 (i : Int)), (4, .int .u8 ((m / 2 ^ i : Nat) : Int)), (5, .int .u8 ((v / 2 ^ i : Nat) : Int)), (3, .slice A i c)])
    (fun (i, A, c) w' => i ≤ 8 ∧ Hp w (fun _ => False) w' [own 3 1 (.slice A i c) i (ints (litsTo m v i)), blk g1 46 (cc m v)] []) (fun (i, _, _) => 8 - i) (0, none, 0) ⟨rfl, div_pow0 _ _, div_pow0 _ _, rfl, trivial⟩ ⟨by omega, H⟩ ?_
  clear H
  rintro ⟨i, A, c⟩ u w8 ⟨hi, H⟩
  have hm' := pow_div_lt hm i
  have hv' := pow_div_lt hv i
  have hbm := bit_mod m i
  have hbv := bit_mod v i
  have hls := litsTo_succ m v i
  refine cond_dec (fun h3 => ?_) (fun h3 => ?_)
  · refine bin_by_eq rfl (y' := ((2 : Nat) : Int)) rfl (bin_rem_u8 (by omega) ?_)
    refine cond_dec (fun h5 => ?_) (fun h5 => ?_)
    · refine H.buildOne T32 rfl ?_
      clear H
      intro g6 w6 H
      refine H.appendOne 0 T32 rfl rfl (by omega) (by omega) ?_
      clear H
      intro A7 k7 w7 H
      iterate 2 refine bin_by_eq rfl (y' := ((2 : Nat) : Int)) rfl (bin_quo_u8 (by first | assumption | omega) (by omega) ?_)
      refine ⟨(i + 1, _, _), by show 8 - (i + 1) < 8 - i; omega, ⟨up (by omega), half_pow _ _ _, half_pow _ _ _, rfl, trivial⟩, by show i + 1 ≤ 8; omega, ?_⟩
      have e : litN m v i = 2 := by rw [litN, mod_clear h5]; rfl
      rw [show (2 : Int) = ((2 : Nat) : Int) from rfl, ← e, ints_snoc, ← hls] at H
      exact H
    · refine bin_by_eq rfl (y' := ((2 : Nat) : Int)) rfl (bin_rem_u8 (by omega) ?_)
      refine conv_i64 (by kernel_rfl) Try.underlying3 (by omega) (by omega) ?_
      refine H.buildOne T32 rfl ?_
      clear H
      intro g14 w14 H
      refine H.appendOne 0 T32 rfl rfl (by omega) (by omega) ?_
      clear H
      intro A15 k15 w15 H
      iterate 2 refine bin_by_eq rfl (y' := ((2 : Nat) : Int)) rfl (bin_quo_u8 (by first | assumption | omega) (by omega) ?_)
      refine ⟨(i + 1, _, _), by show 8 - (i + 1) < 8 - i; omega, ⟨up (by omega), half_pow _ _ _, half_pow _ _ _, rfl, trivial⟩, by show i + 1 ≤ 8; omega, ?_⟩
      have e : litN m v i = v / 2 ^ i % 2 := by rw [litN, mod_set h5, if_pos rfl, hbv]
      rw [← e, ints_snoc, ← hls] at H
      exact H
  · obtain rfl : i = 8 := by omega
    exact ⟨A, c, rfl, H.out⟩
theorem ent56 : enters Try.prog 56 = true := by kernel_rfl
theorem c56_b (m v : Nat) (hm : m < 256) (hv : v < 256) (n : Int) (hr : rightN m v n = false) (w : World) : Fun Try.prog 56 [cv m v, .int .i64 n] w fun r w' => r = .tuple #[strV [], .int .i64 1] ∧ Same w w' := by
  refine fun_of_W (N := 45) Try.func56 ent56 rfl rfl rfl (by simp) ?_
  have H := Hp.start0 w
  refine H.box 46 (cv _ _) (cs := cc _ _) rfl ?_
  clear H
  intro g1 w1 H
  refine H.loadAll 0 rfl agg46 size46 ?_
  refine call_fn (c58 _ _ (by first | assumption | omega | decide) (by first | assumption | omega | decide) _ _) ?_
  rintro _ w3 ⟨rfl, hk⟩
  replace H := H.same hk
  clear hk
  refine cond_yes (by simp only [*, Bool.not_false, Bool.not_true]) ?_
  exact ⟨rfl, H.keeps⟩
theorem c56_a (m v : Nat) (hm : m < 256) (hv : v < 256) (n : Nat) (hn : n ≤ 8) (hr : rightN m v n = true) (w : World) : Fun Try.prog 56 [cv m v, .int .i64 (n : Int)] w fun r w' => r = .tuple #[strV (textL m v n), .int .i64 0] ∧ Same w w' := by
  refine fun_of_W (N := 45) Try.func56 ent56 rfl rfl rfl (by simp) ?_
  have H := Hp.start0 w
  refine H.box 46 (cv _ _) (cs := cc _ _) rfl ?_
  clear H
  intro g1 w1 H
  refine H.loadAll 0 rfl agg46 size46 ?_
  refine call_fn (c58_a _ _ (by first | assumption | omega | decide) (by first | assumption | omega | decide) _ (by first | assumption | omega | decide) _) ?_
  rintro _ w3 ⟨rfl, hk⟩
  replace H := H.same hk
  clear hk
  refine cond_no (by simp only [*, Bool.not_false, Bool.not_true]) ?_
  refine H.make T192 n rfl rfl (by omega) (by omega) ?_
  clear H
  intro g5 w5 H
  rw [madeBytes] at H
  refine len_sl Try.underlying192 ?_
  refine loop_rule (γ := Nat) _ rfl (fun i => [(16, .int .i64 (i : Int))])
    (fun i w' => i ≤ n ∧ Hp w (fun _ => False) w' [own 5 1 (.slice (some ⟨g5, 0, none⟩) n n) n (bytesV (textP m v n i)), blk g1 46 (cc m v)] []) (fun i => n - i) 0 ⟨rfl, trivial⟩ ⟨by omega, H⟩ ?_
  clear H
  rintro i u w8 ⟨hi, H⟩
  have hm' := pow_div_lt hm i
  have hv' := pow_div_lt hv i
  have hb := bit_u8 m i
  have hb2 := bit_u8 v i
  have hlen := textP_length m v hi
  refine cond_dec (fun h2 => ?_) (fun h2 => ?_)
  · refine fieldAddr_by (fa46_0 _) ?_
    refine H.load 1 rfl agg5 rfl ?_
    refine bin_shr_u8 (by omega) ?_
    refine bin_by_eq rfl (y' := ((1 : Nat) : Int)) rfl (bin_and_u8 (by first | assumption | omega) (by omega) ?_)
    refine cond_dec (fun h6 => ?_) (fun h6 => ?_)
    · refine idxAddr_sl Try.underlying192 (s := 1) (by kernel_rfl) _ rfl (by first | omega | decide | (simp only [IntKind.wrap_i64]; omega) | (simp; done) | (simp; omega)) (o' := _) (by rw [Nat.zero_add, Nat.mul_one]) ?_
      have hmb := bit_clear h6
      refine H.storeOwn 0 rfl size5 (by rw [bytesV_length]; omega) rfl ?_
      clear H
      intro w9 H
      refine ⟨i + 1, by omega, ⟨up (by omega), trivial⟩, by omega, ?_⟩
      rw [← textP_set (by omega), show chN m v i = 45 from by simp [chN, hmb], ← bytesV_set]
      exact H
    · refine fieldAddr_by (fa46_1 _) ?_
      refine H.load 1 rfl agg5 rfl ?_
      refine bin_shr_u8 (by omega) ?_
      refine bin_by_eq rfl (y' := ((1 : Nat) : Int)) rfl (bin_and_u8 (by first | assumption | omega) (by omega) ?_)
      refine cond_dec (fun h14 => ?_) (fun h14 => ?_)
      · refine idxAddr_sl Try.underlying192 (s := 1) (by kernel_rfl) _ rfl (by first | omega | decide | (simp only [IntKind.wrap_i64]; omega) | (simp; done) | (simp; omega)) (o' := _) (by rw [Nat.zero_add, Nat.mul_one]) ?_
        have hmb := bit_set h6
        have hvb := bit_clear h14
        refine H.storeOwn 0 rfl size5 (by rw [bytesV_length]; omega) rfl ?_
        clear H
        intro w9 H
        refine ⟨i + 1, by omega, ⟨up (by omega), trivial⟩, by omega, ?_⟩
        rw [← textP_set (by omega), show chN m v i = 48 from by simp [chN, hmb, hvb], ← bytesV_set]
        exact H
      · refine idxAddr_sl Try.underlying192 (s := 1) (by kernel_rfl) _ rfl (by first | omega | decide | (simp only [IntKind.wrap_i64]; omega) | (simp; done) | (simp; omega)) (o' := _) (by rw [Nat.zero_add, Nat.mul_one]) ?_
        have hmb := bit_set h6
        have hvb := bit_set h14
        refine H.storeOwn 0 rfl size5 (by rw [bytesV_length]; omega) rfl ?_
        clear H
        intro w9 H
        refine ⟨i + 1, by omega, ⟨up (by omega), trivial⟩, by omega, ?_⟩
        rw [← textP_set (by omega), show chN m v i = 49 from by simp [chN, hmb, hvb], ← bytesV_set]
        exact H
  · refine H.bytesStr 0 Try.underlying192 Try.underlying5 Try.underlying9 rfl ?_
    obtain rfl : i = n := by omega
    have e : textP m v i i = textL m v i := by simp [textP]
    rw [e]
    exact ⟨rfl, H.keeps⟩
theorem ent163 : enters Try.prog 163 = true := by kernel_rfl
theorem c163 (l : List Nat) (hl : l.length ≤ 8) (h2 : ∀ x ∈ l, x ≤ 2) (A : Option Addr) (c : Nat) (w : World) (hs : Sl w (.slice A l.length c) 1 l.length (ints l)) : Fun Try.prog 163 [.slice A l.length c] w fun r w' => r = cv (cubeM l) (cubeV l) ∧ Same w w' := by
  refine fun_of_W (N := 36) Try.func163 ent163 rfl rfl rfl (by simp) ?_
  have H := Hp.start0 w
  refine H.alloc 46 (cs := cc 0 0) zero46 rfl ?_
  clear H
  intro g1 w1 H
  refine H.alloc 46 (cs := cc 0 0) zero46 rfl ?_
  clear H
  intro g3 w3 H
  refine loop_rule (γ := Nat) _ rfl (fun i => [(5, .int .i64 (i : Int)), (4, .int .u8 ((2 ^ i % 256 : Nat) : Int))])
    (fun i w' => i ≤ l.length ∧ Hp w (fun _ => False) w' [blk g3 46 (cc (mkSet (fun j => decide (l.getD j 2 < 2)) i) (mkSet (fun j => decide (l.getD j 2 = 1)) i)), blk g1 46 (cc 0 0)] []) (fun i => l.length - i) 0 ⟨rfl, rfl, trivial⟩ ⟨by omega, H⟩ ?_
  clear H
  rintro i u w8 ⟨hi, H⟩
  refine len_sl Try.underlying32 ?_
  refine cond_dec (fun h5 => ?_) (fun h5 => ?_)
  · (obtain ⟨g6, o6, rfl⟩ := hs.A (by omega))
    refine idxAddr_sl Try.underlying32 (s := 1) (by kernel_rfl) _ rfl (by first | omega | decide | (simp only [IntKind.wrap_i64]; omega) | (simp; done) | (simp; omega)) (o' := _) (by rw [Nat.mul_one]) ?_
    refine H.loadSl hs agg3 _ rfl (ints_get (by omega)) ?_
    refine cond_dec (fun h10 => ?_) (fun h10 => ?_)
    · refine fieldAddr_by (fa46_0 _) ?_
      refine H.load 0 rfl agg5 rfl ?_
      refine fieldAddr_by (fa46_0 _) ?_
      refine H.store 0 rfl size5 (Nat.le_of_ble_eq_true rfl) rfl ?_
      clear H
      intro w4 H
      refine H.draw fol (by kernel_rfl) ?_
      clear H
      intro w7 H
      refine quiet _ (fun w H => fieldAddr_by (fa46_1 _) ⟨rfl, rfl⟩) ?_
      refine quiet _ (fun w H => H.load 0 rfl agg5 rfl ⟨rfl, rfl⟩) ?_
      refine quiet _ (fun w H => idxAddr_sl Try.underlying32 (s := 1) (by kernel_rfl) _ rfl (by first | omega | decide | (simp only [IntKind.wrap_i64]; omega) | (simp; done) | (simp; omega)) (o' := _) (by rw [Nat.mul_one]) ⟨rfl, rfl⟩) ?_
      refine quiet _ (fun w H => H.loadSl hs agg3 _ rfl (ints_get (by omega)) ⟨rfl, rfl⟩) ?_
      refine quiet _ (fun w H => conv_u8 (by kernel_rfl) Try.underlying5 (by omega) (by omega) ⟨rfl, rfl⟩) ?_
      refine quiet _ (fun w H => fieldAddr_by (fa46_1 _) ⟨rfl, rfl⟩) ?_
      refine H.store 0 rfl size5 (Nat.le_of_ble_eq_true rfl) rfl ?_
      clear H
      intro w16 H
      refine ⟨.inr rfl, ?_⟩
      have hg : l.getD i 2 = l[i] := by simp [List.getD_eq_getElem?_getD, (by omega : i < l.length)]
      refine ⟨i + 1, by omega, ⟨up (by omega), stepP (by omega), trivial⟩, by omega, ?_⟩
      simp only [List.set_cons_zero] at H
      rw [cc_set0 (stepM (by omega) (by show decide (l.getD i 2 < 2) = true; rw [hg]; exact decide_eq_true (by omega))), cc_set1 (stepV (x := l[i]) (by omega) (by omega) (by show decide (l.getD i 2 = 1) = _; rw [hg]))] at H
      exact H
    · have hg : l.getD i 2 = l[i] := by simp [List.getD_eq_getElem?_getD, (by omega : i < l.length)]
      have hx := h2 l[i] (List.getElem_mem _)
      refine ⟨i + 1, by omega, ⟨up (by omega), stepP (by omega), trivial⟩, by omega, ?_⟩
      have e1 : mkSet (fun j => decide (l.getD j 2 < 2)) (i + 1) = mkSet (fun j => decide (l.getD j 2 < 2)) i := by
        rw [mkSet, hg, if_neg (by simp; omega)]; rfl
      have e2 : mkSet (fun j => decide (l.getD j 2 = 1)) (i + 1) = mkSet (fun j => decide (l.getD j 2 = 1)) i := by
        rw [mkSet, hg, if_neg (by simp; omega)]; rfl
      rw [e1, e2]
      exact H
  · refine H.loadAll 0 rfl agg46 size46 ?_
    refine H.storeCube 1 rfl ?_
    clear H
    intro w17 H
    refine H.loadAll 1 rfl agg46 size46 ?_
    refine ⟨rfl, ?_⟩
    obtain rfl : i = l.length := by omega
    exact ⟨rfl, H.keeps⟩

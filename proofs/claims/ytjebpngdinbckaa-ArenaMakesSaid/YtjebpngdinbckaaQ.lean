import Derived.Test.YtjebpngdinbckaaS5
import Derived.Test.YtjebpngdinbckaaN
import Derived.Test.YtjebpngdinbckaaK
/- Cubes: their values, and the functions of package cube. -/
namespace Go.Proofs.Ytjebpngdinbckaa
open Go.Dk
attribute [local irreducible] IntKind.wrap

/-! ### A cube: which inputs it cares for, and the signs of those -/
def cc (c s : Nat) : Array Value := #[.int .u8 (c : Int), .int .u8 (s : Int)]
def cv (c s : Nat) : Value := .agg (cc c s)
theorem zero46 : zeroT Try.prog 46 = some (.agg #[.int .u8 0, .int .u8 0]) := by kernel_rfl
theorem agg46 : aggT Try.prog 46 = some true := by kernel_rfl
theorem size46 : sizeT Try.prog 46 = some 2 := by kernel_rfl
theorem agg5 : aggT Try.prog 5 = some false := by kernel_rfl
theorem size5 : sizeT Try.prog 5 = some 1 := by kernel_rfl
theorem cc_one (c s : Nat) : ∀ v ∈ (cc c s).toList, v.oneCell' = true := by
  intro v hv
  simp [cc] at hv
  rcases hv with rfl | rfl <;> rfl
theorem fa46_0 (g : Nat) (w : World) : (Instr.fieldAt 46 (.pointer (some ⟨g, 0, none⟩)) 0).run Try.prog w = .ok (.pointer (some ⟨g, 0, none⟩)) w := by kernel_rfl
theorem fa46_1 (g : Nat) (w : World) : (Instr.fieldAt 46 (.pointer (some ⟨g, 0, none⟩)) 1).run Try.prog w = .ok (.pointer (some ⟨g, 1, none⟩)) w := by kernel_rfl
theorem build46 {c s : Nat} {w : World} {kk : Value → World → Prop} (h : kk (cv c s) w) : buildK Try.prog 46 [(0, .int .u8 (c : Int)), (1, .int .u8 (s : Int))] w kk :=
  build_by (fun w => by kernel_rfl) h
theorem build46z {w : World} {kk : Value → World → Prop} (h : kk (cv 0 0) w) : buildK Try.prog 46 [] w kk :=
  build_by (fun w => by kernel_rfl) h
theorem egt46 : Try.prog.eqGuardType Try.prog.depth 46 = false := by kernel_rfl
theorem run_eq46 (a b c d : Nat) (w : World) : (Op.equal 46 (cv a b) (cv c d)).run Try.prog w = .ok (a == c && b == d) w := by
  have hr : ∀ d', (Op.equalIn (d' + 2) 46 (cv a b) (cv c d)).run Try.prog w = .ok (a == c && b == d) w := by
    intro d'
    unfold cv
    rw [Op.equalIn]
    have i0 := run_eqInt Try.underlying5 d' (a : Int) (c : Int)
    have i1 := run_eqInt Try.underlying5 d' (b : Int) (d : Int)
    have p0 : ∀ (x y : Nat) w, (Go.part 5 (cc x y) 0).run Try.prog w = .ok (.int .u8 (x : Int)) w := fun x y w => run_part agg5 rfl w
    have p1 : ∀ (x y : Nat) w, (Go.part 5 (cc x y) 1).run Try.prog w = .ok (.int .u8 (y : Int)) w := fun x y w => run_part agg5 rfl w
    have e0 : ((a : Int) == (c : Int)) = (a == c) := by rw [Bool.eq_iff_iff, beq_iff_eq, beq_iff_eq, Int.natCast_inj]
    have e1 : ((b : Int) == (d : Int)) = (b == d) := by rw [Bool.eq_iff_iff, beq_iff_eq, beq_iff_eq, Int.natCast_inj]
    rw [e0] at i0
    rw [e1] at i1
    generalize (a == c) = b0 at *
    generalize (b == d) = b1 at *
    have hst : Try.prog.stoodInHeld 46 = false := by kernel_rfl
    simp only [Sem.run_bind, run_underlying Try.underlying46, Result.andThen_ok, Go.Dk.run_sizeOf size46, run_program, hst]
    cases b0 <;> cases b1 <;> simp [p0, p1, i0, i1]
  exact hr 9998

theorem _root_.Go.Dk.Hp.storeSet {w0 w : World} {F : Nat → Prop} {L M : List Res} {k : Value → World → Prop} (H : Hp w0 F w L M) (n : Nat) {g a b : Nat} (hn : L[n]? = some (blk g 24 (sc a)))
    (h : ∀ w', Hp w0 F w' (L.set n (blk g 24 (sc b))) M → k undef w') : storeK Try.prog 24 (.pointer (some ⟨g, 0, none⟩)) (sv b) w k :=
  H.storeAll n hn size24 rfl (sc_one _) h
theorem _root_.Go.Dk.Hp.storeCube {w0 w : World} {F : Nat → Prop} {L M : List Res} {k : Value → World → Prop} (H : Hp w0 F w L M) (n : Nat) {g a b c d : Nat} (hn : L[n]? = some (blk g 46 (cc a b)))
    (h : ∀ w', Hp w0 F w' (L.set n (blk g 46 (cc c d))) M → k undef w') : storeK Try.prog 46 (.pointer (some ⟨g, 0, none⟩)) (cv c d) w k :=
  H.storeAll n hn size46 rfl (cc_one _ _) h

theorem ent58 : enters Try.prog 58 = true := by kernel_rfl
theorem c58_b (m v : Nat) (n : Int) (hn : n < 0 ∨ 8 < n) (w : World) : Fun Try.prog 58 [cv m v, .int .i64 n] w fun r w' => r = .bool false ∧ Same w w' := by
  refine fun_of_W (N := 27) Try.func58 ent58 rfl rfl rfl (by simp) ?_
  have H := Hp.start0 w
  refine H.box 46 (cv _ _) (cs := cc _ _) rfl ?_
  clear H
  intro g1 w1 H
  refine H.draw fol (by kernel_rfl) ?_
  clear H
  intro w2 H
  refine cond_split (fun h3 => ?_) (fun h3 => ?_)
  · refine cond_yes (by assumption) ?_
    refine cond_yes (by assumption) ?_
    refine cond_split (fun h6 => ?_) (fun h6 => ?_)
    · refine quiet _ (fun w H => fieldAddr_by (fa46_0 _) ⟨rfl, rfl⟩) ?_
      refine cond_yes (by assumption) ?_
      refine quiet _ (fun w H => H.load 0 rfl agg5 rfl ⟨rfl, rfl⟩) ?_
      refine cond_yes (by assumption) ?_
      refine quiet _ (fun w H => conv_int (by kernel_rfl) Try.underlying3 ⟨rfl, rfl⟩) ?_
      iterate 2 refine cond_yes (by assumption) ?_
      exfalso
      simp only [decide_eq_true_eq, decide_eq_false_iff_not] at *
      omega
    · refine cond_no (by assumption) ?_
      iterate 5 refine cond_no (by assumption) ?_
      iterate 7 refine cond_no rfl ?_
      exact ⟨rfl, H.keeps⟩
  · refine cond_no (by assumption) ?_
    refine cond_no (by assumption) ?_
    iterate 14 refine cond_no rfl ?_
    exact ⟨rfl, H.keeps⟩
theorem c58_a (m v : Nat) (hm : m < 256) (hv : v < 256) (n : Nat) (hn : n ≤ 8) (w : World) : Fun Try.prog 58 [cv m v, .int .i64 (n : Int)] w fun r w' => r = .bool (rightN m v n) ∧ Same w w' := by
  refine fun_of_W (N := 27) Try.func58 ent58 rfl rfl rfl (by simp) ?_
  have H := Hp.start0 w
  refine H.box 46 (cv _ _) (cs := cc _ _) rfl ?_
  clear H
  intro g1 w1 H
  refine H.draw fol (by kernel_rfl) ?_
  clear H
  intro w2 H
  iterate 3 refine cond_yes rfl ?_
  refine cond_yes (decide_eq_true (by omega)) ?_
  refine quiet _ (fun w H => fieldAddr_by (fa46_0 _) ⟨rfl, rfl⟩) ?_
  refine cond_yes (decide_eq_true (by omega)) ?_
  refine quiet _ (fun w H => H.load 0 rfl agg5 rfl ⟨rfl, rfl⟩) ?_
  refine cond_yes (decide_eq_true (by omega)) ?_
  refine quiet _ (fun w H => conv_i64 (by kernel_rfl) Try.underlying3 (by omega) (by omega) ⟨rfl, rfl⟩) ?_
  iterate 2 refine cond_yes (decide_eq_true (by omega)) ?_
  refine quiet _ (fun w H => bin_one_shl_i64 (by omega) ⟨rfl, rfl⟩) ?_
  iterate 2 refine cond_yes (decide_eq_true (by omega)) ?_
  refine cond_split (fun h17 => ?_) (fun h17 => ?_)
  · refine quiet _ (fun w H => fieldAddr_by (fa46_1 _) ⟨rfl, rfl⟩) ?_
    refine cond_yes (by assumption) ?_
    refine quiet _ (fun w H => H.load 0 rfl agg5 rfl ⟨rfl, rfl⟩) ?_
    refine cond_yes (by assumption) ?_
    refine quiet _ (fun w H => fieldAddr_by (fa46_0 _) ⟨rfl, rfl⟩) ?_
    refine cond_yes (by assumption) ?_
    refine quiet _ (fun w H => H.load 0 rfl agg5 rfl ⟨rfl, rfl⟩) ?_
    refine cond_yes (by assumption) ?_
    refine quiet _ (fun w H => bin_andNot_u8 (by omega) (by omega) ⟨rfl, rfl⟩) ?_
    iterate 2 refine cond_yes (by assumption) ?_
    refine ⟨congrArg Value.bool ?_, H.keeps⟩
    have h' : m < 2 ^ n := by have := of_decide_eq_true h17; exact_mod_cast this
    have h8 : (n : Int) ≤ 8 := by omega
    simp only [rightN, Int.toNat_natCast, h', h8, decide_true, Bool.true_and, Int.natCast_nonneg]
    rw [Bool.eq_iff_iff, beq_iff_eq, beq_iff_eq]; omega
  · refine cond_no (by assumption) ?_
    iterate 5 refine cond_no (by assumption) ?_
    refine ⟨congrArg Value.bool ?_, H.keeps⟩
    have h' : ¬ m < 2 ^ n := by have := of_decide_eq_false h17; exact_mod_cast this
    simp [rightN, h']
theorem c58 (m v : Nat) (hm : m < 256) (hv : v < 256) (n : Int) (w : World) : Fun Try.prog 58 [cv m v, .int .i64 n] w fun r w' => r = .bool (rightN m v n) ∧ Same w w' := by
  by_cases h : n < 0 ∨ 8 < n
  · have e : rightN m v n = false := by unfold rightN; rcases h with h | h <;> simp <;> omega
    rw [e]; exact c58_b m v n h w
  · obtain ⟨k, rfl⟩ := Int.eq_ofNat_of_zero_le (show 0 ≤ n by omega)
    exact c58_a m v hm hv k (by omega) w
theorem ent169 : enters Try.prog 169 = true := by kernel_rfl
theorem c169 (m v : Nat) (hm : m < 256) (hv : v < 256) (w : World) : Fun Try.prog 169 [cv m v] w fun r w' => r = cv m (v &&& m) ∧ Same w w' := by
  refine fun_of_W (N := 11) Try.func169 ent169 rfl rfl rfl (by simp) ?_
  have H := Hp.start0 w
  refine H.box 46 (cv _ _) (cs := cc _ _) rfl ?_
  clear H
  intro g1 w1 H
  refine H.alloc 46 (cs := cc 0 0) zero46 rfl ?_
  clear H
  intro g2 w2 H
  refine fieldAddr_by (fa46_0 _) ?_
  refine H.load 1 rfl agg5 rfl ?_
  refine fieldAddr_by (fa46_1 _) ?_
  refine H.load 1 rfl agg5 rfl ?_
  refine fieldAddr_by (fa46_0 _) ?_
  refine H.load 1 rfl agg5 rfl ?_
  refine bin_and_u8 (by omega) (by omega) ?_
  refine build46 ?_
  refine H.storeCube 0 rfl ?_
  clear H
  intro w11 H
  refine H.loadAll 0 rfl agg46 size46 ?_
  refine ⟨rfl, ?_⟩
  exact ⟨rfl, H.keeps⟩
theorem ent55 : enters Try.prog 55 = true := by kernel_rfl
theorem c55_b (m v : Nat) (hm : m < 256) (hv : v < 256) (n : Int) (hr : rightN m v n = false) (w : World) : Fun Try.prog 55 [cv m v, .int .i64 n] w fun r w' => r = .tuple #[sv 0, .int .i64 1] ∧ Same w w' := by
  refine fun_of_W (N := 31) Try.func55 ent55 rfl rfl rfl (by simp) ?_
  have H := Hp.start0 w
  refine H.box 46 (cv _ _) (cs := cc _ _) rfl ?_
  clear H
  intro g1 w1 H
  refine H.alloc 24 (cs := sc 0) zero24 sc_zero ?_
  clear H
  intro g2 w2 H
  refine H.loadAll 1 rfl agg46 size46 ?_
  refine call_fn (c58 _ _ (by first | assumption | omega | decide) (by first | assumption | omega | decide) _ _) ?_
  rintro _ w4 ⟨rfl, hk⟩
  replace H := H.same hk
  clear hk
  refine cond_yes (by simp only [*, Bool.not_false, Bool.not_true]) ?_
  refine build24 ?_
  refine H.storeSet 0 rfl ?_
  clear H
  intro w7 H
  refine H.loadAll 0 rfl agg24 size24 ?_
  refine ⟨rfl, ?_⟩
  exact ⟨rfl, H.keeps⟩
def cubeTo (m v k : Nat) : Nat := orAll ((List.range k).filter fun p => p &&& m == v)
theorem cubeTo_succ (m v k : Nat) : cubeTo m v (k + 1) = if k &&& m = v then cubeTo m v k ||| 2 ^ k else cubeTo m v k := by
  unfold cubeTo
  rw [List.range_succ, List.filter_append]
  by_cases h : k &&& m = v
  · rw [if_pos h, List.filter_cons_of_pos (by simpa using h), List.filter_nil, orAll_snoc]
  · rw [if_neg h, List.filter_cons_of_neg (by simpa using h), List.filter_nil, List.append_nil]
theorem c55_a (m v : Nat) (hm : m < 256) (hv : v < 256) (n : Nat) (hn : n ≤ 8) (hr : rightN m v n = true) (w : World) : Fun Try.prog 55 [cv m v, .int .i64 (n : Int)] w fun r w' => r = .tuple #[sv (cubeP m v n), .int .i64 0] ∧ Same w w' := by
  refine fun_of_W (N := 31) Try.func55 ent55 rfl rfl rfl (by simp) ?_
  have H := Hp.start0 w
  have h2 : 2 ^ n ≤ 256 := Nat.le_trans (Nat.pow_le_pow_right (by decide) hn) (show 2 ^ 8 ≤ 256 by decide)
  rw [cubeP_eq m v hn]
  refine H.box 46 (cv _ _) (cs := cc _ _) rfl ?_
  clear H
  intro g1 w1 H
  refine H.alloc 24 (cs := sc 0) zero24 sc_zero ?_
  clear H
  intro g3 w3 H
  refine H.loadAll 1 rfl agg46 size46 ?_
  refine call_fn (c58 _ _ (by first | assumption | omega | decide) (by first | assumption | omega | decide) _ _) ?_
  rintro _ w5 ⟨rfl, hk⟩
  replace H := H.same hk
  clear hk
  refine cond_no (by simp only [*, Bool.not_false, Bool.not_true]) ?_
  refine H.alloc 24 (cs := sc 0) zero24 sc_zero ?_
  clear H
  intro g7 w7 H
  refine bin_one_shl_i64 (by omega) ?_
  generalize 2 ^ n = N at h2 ⊢
  refine loop_rule (γ := Nat) _ rfl (fun i => [(15, .int .i64 (i : Int))]) (fun i w' => i ≤ N ∧ Hp w (fun _ => False) w' [blk g7 24 (sc (cubeTo m v i)), blk g3 24 (sc 0), blk g1 46 (cc m v)] []) (fun i => N - i) 0 ⟨rfl, trivial⟩ ⟨by omega, H⟩ ?_
  clear H
  rintro i u w8 ⟨hi, H⟩
  have hs := cubeTo_succ m v i
  refine cond_dec (fun h4 => ?_) (fun h4 => ?_)
  · refine conv_u8 (by kernel_rfl) Try.underlying5 (by omega) (by omega) ?_
    refine fieldAddr_by (fa46_0 _) ?_
    refine H.load 2 rfl agg5 rfl ?_
    refine bin_and_u8 (by omega) (by omega) ?_
    refine fieldAddr_by (fa46_1 _) ?_
    refine H.load 2 rfl agg5 rfl ?_
    refine cond_dec (fun h14 => ?_) (fun h14 => ?_)
    · refine H.loadAll 0 rfl agg24 size24 ?_
      refine call_fn (c46_yes _ _ (by first | assumption | omega | decide) _) ?_
      rintro _ w16 ⟨rfl, hk⟩
      replace H := H.same hk
      clear hk
      refine H.storeSet 0 rfl ?_
      clear H
      intro w17 H
      refine ⟨i + 1, by omega, ⟨up (by omega), trivial⟩, by omega, ?_⟩
      rw [if_pos (by omega)] at hs
      rw [hs]
      exact H
    · refine ⟨i + 1, by omega, ⟨up (by omega), trivial⟩, by omega, ?_⟩
      rw [if_neg (by omega)] at hs
      rw [hs]
      exact H
  · refine H.loadAll 0 rfl agg24 size24 ?_
    refine H.storeSet 1 rfl ?_
    clear H
    intro w23 H
    refine H.loadAll 1 rfl agg24 size24 ?_
    refine ⟨rfl, ?_⟩
    (obtain rfl : i = N := by omega)
    exact ⟨rfl, H.keeps⟩
theorem c55 (m v : Nat) (hm : m < 256) (hv : v < 256) (n : Int) (w : World) : Fun Try.prog 55 [cv m v, .int .i64 n] w fun r w' => r = (if rightN m v n then .tuple #[sv (cubeP m v n.toNat), .int .i64 0] else .tuple #[sv 0, .int .i64 1]) ∧ Same w w' := by
  cases h : rightN m v n with
  | false => exact c55_b m v hm hv n h w
  | true =>
    have h' := (rightN_iff hm hv).1 h
    obtain ⟨k, rfl⟩ := Int.eq_ofNat_of_zero_le h'.1
    exact c55_a m v hm hv k (by omega) h w

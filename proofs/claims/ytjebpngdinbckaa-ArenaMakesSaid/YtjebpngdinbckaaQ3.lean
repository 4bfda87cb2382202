import Derived.Test.YtjebpngdinbckaaQ2
import Derived.Test.YtjebpngdinbckaaK2
/- Cubes: the document's answers. -/
namespace Go.Proofs.Ytjebpngdinbckaa
open Go.Dk
attribute [local irreducible] IntKind.wrap

theorem bin_eql46 {a b c d : Nat} {xo yo : Operand} {w : World} {kk : Value → World → Prop} (h : kk (.bool (a == c && b == d)) w) : binK Try.prog .eql 46 xo yo (cv a b) (cv c d) w kk :=
  bin_eql_agg egt46 (fun w => run_eq46 a b c d w) h
theorem bin_neq46 {a b c d : Nat} {xo yo : Operand} {w : World} {kk : Value → World → Prop} (h : kk (.bool (!(a == c && b == d))) w) : binK Try.prog .neq 46 xo yo (cv a b) (cv c d) w kk :=
  bin_neq_agg egt46 (fun w => run_eq46 a b c d w) h

theorem cast_beq0 (a : Nat) : (((a : Nat) : Int) == 0) = (a == 0) := by
  rw [Bool.eq_iff_iff, beq_iff_eq, beq_iff_eq]; omega
theorem popc_le8 {m : Nat} (hm : m < 256) : popc m ≤ 8 := popc_le 8 m hm
theorem pred_u8 {x : Nat} (hx : x < 256) (h : 0 < x) : IntKind.u8.wrap ((x : Int) - 1) = ((x - 1 : Nat) : Int) := by rw [IntKind.wrap_u8]; omega

/-! ### What two cubes have -/
theorem ent75 : enters Try.prog 75 = true := by kernel_rfl
theorem c75 (m v x y : Nat) (hm : m < 256) (hv : v < 256) (hx : x < 256) (hy : y < 256) (w : World) : Fun Try.prog 75 [cv m v, cv x y] w fun r w' => r = (if meetB m v x y then .tuple #[cv (meetM m x) (meetV m v x y), .bool true] else .tuple #[cv 0 0, .bool false]) ∧ Same w w' := by
  refine fun_of_W (N := 34) Try.func75 ent75 rfl rfl rfl (by simp) ?_
  have H := Hp.start0 w
  refine H.box 46 (cv _ _) (cs := cc _ _) rfl ?_
  clear H
  intro g1 w1 H
  refine H.box 46 (cv _ _) (cs := cc _ _) rfl ?_
  clear H
  intro g2 w2 H
  refine H.alloc 46 (cs := cc 0 0) zero46 rfl ?_
  clear H
  intro g3 w3 H
  refine fieldAddr_by (fa46_1 _) ?_
  refine H.load 2 rfl agg5 rfl ?_
  refine fieldAddr_by (fa46_1 _) ?_
  refine H.load 1 rfl agg5 rfl ?_
  refine bin_xor_u8 (by first | assumption | omega | (repeat' (first | assumption | refine and_lt8 ?_ _ | refine xor_lt8 ?_ ?_ | refine or_lt8 ?_ ?_))) (by first | assumption | omega | (repeat' (first | assumption | refine and_lt8 ?_ _ | refine xor_lt8 ?_ ?_ | refine or_lt8 ?_ ?_))) ?_
  refine fieldAddr_by (fa46_0 _) ?_
  refine H.load 2 rfl agg5 rfl ?_
  refine bin_and_u8 (by first | assumption | omega | (repeat' (first | assumption | refine and_lt8 ?_ _ | refine xor_lt8 ?_ ?_ | refine or_lt8 ?_ ?_))) (by first | assumption | omega | (repeat' (first | assumption | refine and_lt8 ?_ _ | refine xor_lt8 ?_ ?_ | refine or_lt8 ?_ ?_))) ?_
  refine fieldAddr_by (fa46_0 _) ?_
  refine H.load 1 rfl agg5 rfl ?_
  refine bin_and_u8 (by first | assumption | omega | (repeat' (first | assumption | refine and_lt8 ?_ _ | refine xor_lt8 ?_ ?_ | refine or_lt8 ?_ ?_))) (by first | assumption | omega | (repeat' (first | assumption | refine and_lt8 ?_ _ | refine xor_lt8 ?_ ?_ | refine or_lt8 ?_ ?_))) ?_
  refine cond_bne (fun h15 => ?_) (fun h15 => ?_)
  · refine build46z ?_
    refine H.storeCube 0 rfl ?_
    clear H
    intro w17 H
    refine H.loadAll 0 rfl agg46 size46 ?_
    refine ⟨rfl, ?_⟩
    have e : meetB m v x y = false := by unfold meetB; rw [beq_eq_false_iff_ne]; exact fun e => h15 (by rw [e]; rfl)
    refine ⟨?_, H.keeps⟩
    rw [e]; rfl
  · refine H.draw fol (by kernel_rfl) ?_
    clear H
    intro w21 H
    refine quiet _ (fun w H => H.loadAll 2 rfl agg46 size46 ⟨rfl, rfl⟩) ?_
    refine call_fn (c169 _ _ (by first | assumption | omega | decide) (by first | assumption | omega | decide) _) ?_
    rintro _ w23 ⟨rfl, hk⟩
    replace H := H.same hk
    clear hk
    refine ⟨.inl H, ?_⟩
    refine quiet _ (fun w H => H.loadAll 1 rfl agg46 size46 ⟨rfl, rfl⟩) ?_
    refine call_fn (c169 _ _ (by first | assumption | omega | decide) (by first | assumption | omega | decide) _) ?_
    rintro _ w26 ⟨rfl, hk⟩
    replace H := H.same hk
    clear hk
    refine ⟨.inl H, ?_⟩
    refine H.storeCube 2 rfl ?_
    clear H
    intro w28 H
    refine ⟨.inr rfl, ?_⟩
    refine H.storeCube 1 rfl ?_
    clear H
    intro w30 H
    refine ⟨.inr rfl, ?_⟩
    refine fieldAddr_by (fa46_0 _) ?_
    refine H.load 2 rfl agg5 rfl ?_
    refine fieldAddr_by (fa46_0 _) ?_
    refine H.load 1 rfl agg5 rfl ?_
    refine bin_or_u8 (by first | assumption | omega | (repeat' (first | assumption | refine and_lt8 ?_ _ | refine xor_lt8 ?_ ?_ | refine or_lt8 ?_ ?_))) (by first | assumption | omega | (repeat' (first | assumption | refine and_lt8 ?_ _ | refine xor_lt8 ?_ ?_ | refine or_lt8 ?_ ?_))) ?_
    refine fieldAddr_by (fa46_1 _) ?_
    refine H.load 2 rfl agg5 rfl ?_
    refine fieldAddr_by (fa46_1 _) ?_
    refine H.load 1 rfl agg5 rfl ?_
    refine bin_or_u8 (by first | assumption | omega | (repeat' (first | assumption | refine and_lt8 ?_ _ | refine xor_lt8 ?_ ?_ | refine or_lt8 ?_ ?_))) (by first | assumption | omega | (repeat' (first | assumption | refine and_lt8 ?_ _ | refine xor_lt8 ?_ ?_ | refine or_lt8 ?_ ?_))) ?_
    refine build46 ?_
    refine H.storeCube 0 rfl ?_
    clear H
    intro w43 H
    refine H.loadAll 0 rfl agg46 size46 ?_
    refine ⟨rfl, ?_⟩
    have e : meetB m v x y = true := by unfold meetB; rw [beq_iff_eq]; exact Int.natCast_eq_zero.1 h15
    refine ⟨?_, H.keeps⟩
    rw [e]; rfl
theorem ent76 : enters Try.prog 76 = true := by kernel_rfl
theorem c76 (m v : Nat) (hm : m < 256) (w : World) : Fun Try.prog 76 [cv m v] w fun r w' => r = .int .i64 (popc m : Int) ∧ Same w w' := by
  refine fun_of_W (N := 16) Try.func76 ent76 rfl rfl rfl (by simp) ?_
  have H := Hp.start0 w
  refine H.box 46 (cv _ _) (cs := cc _ _) rfl ?_
  clear H
  intro g1 w1 H
  refine fieldAddr_by (fa46_0 _) ?_
  refine H.load 0 rfl agg5 rfl ?_
  refine loop_rule (γ := Nat × Nat) _ rfl (fun (x, n) => [(4, .int .u8 (x : Int)), (3, .int .i64 (n : Int))])
    (fun (x, n) w' => (x < 256 ∧ n + popc x = popc m) ∧ Hp w (fun _ => False) w' [blk g1 46 (cc m v)] []) (fun (x, _) => x) (m, 0) ⟨rfl, rfl, trivial⟩ ⟨⟨hm, by omega⟩, H⟩ ?_
  have hp8 := popc_le8 hm
  clear H
  rintro ⟨x, n⟩ u w8 ⟨⟨hx, hn⟩, H⟩
  refine cond_dec (fun h2 => ?_) (fun h2 => ?_)
  · have hx0 : 0 < x := by omega
    refine bin_by_eq rfl (pred_u8 hx hx0) (bin_and_u8 hx (by omega) ?_)
    have hpp := popc_and_pred (w := x) (by omega)
    have hle : x &&& (x - 1) ≤ x - 1 := Nat.and_le_right
    refine ⟨(x &&& (x - 1), n + 1), by show x &&& (x - 1) < x; omega, ⟨rfl, up (by omega), trivial⟩, ⟨by show x &&& (x - 1) < 256; omega, by show n + 1 + popc (x &&& (x - 1)) = popc m; omega⟩, H⟩
  · obtain rfl : x = 0 := by omega
    rw [popc_zero] at hn
    obtain rfl : n = popc m := by omega
    exact ⟨rfl, H.keeps⟩
theorem ent77 : enters Try.prog 77 = true := by kernel_rfl
theorem c77 (m v x y : Nat) (hm : m < 256) (hv : v < 256) (hx : x < 256) (hy : y < 256) (w : World) : Fun Try.prog 77 [cv m v, cv x y] w fun r w' => r = cv (joinM m v x y) (v &&& joinM m v x y) ∧ Same w w' := by
  refine fun_of_W (N := 20) Try.func77 ent77 rfl rfl rfl (by simp) ?_
  have H := Hp.start0 w
  refine H.box 46 (cv _ _) (cs := cc _ _) rfl ?_
  clear H
  intro g1 w1 H
  refine H.box 46 (cv _ _) (cs := cc _ _) rfl ?_
  clear H
  intro g2 w2 H
  refine H.alloc 46 (cs := cc 0 0) zero46 rfl ?_
  clear H
  intro g3 w3 H
  refine fieldAddr_by (fa46_0 _) ?_
  refine H.load 2 rfl agg5 rfl ?_
  refine fieldAddr_by (fa46_0 _) ?_
  refine H.load 1 rfl agg5 rfl ?_
  refine bin_and_u8 (by first | assumption | omega | (repeat' (first | assumption | refine and_lt8 ?_ _ | refine xor_lt8 ?_ ?_ | refine or_lt8 ?_ ?_))) (by first | assumption | omega | (repeat' (first | assumption | refine and_lt8 ?_ _ | refine xor_lt8 ?_ ?_ | refine or_lt8 ?_ ?_))) ?_
  refine fieldAddr_by (fa46_1 _) ?_
  refine H.load 2 rfl agg5 rfl ?_
  refine fieldAddr_by (fa46_1 _) ?_
  refine H.load 1 rfl agg5 rfl ?_
  refine bin_xor_u8 (by first | assumption | omega | (repeat' (first | assumption | refine and_lt8 ?_ _ | refine xor_lt8 ?_ ?_ | refine or_lt8 ?_ ?_))) (by first | assumption | omega | (repeat' (first | assumption | refine and_lt8 ?_ _ | refine xor_lt8 ?_ ?_ | refine or_lt8 ?_ ?_))) ?_
  refine bin_andNot_u8 (by first | assumption | omega | (repeat' (first | assumption | refine and_lt8 ?_ _ | refine xor_lt8 ?_ ?_ | refine or_lt8 ?_ ?_))) (by first | assumption | omega | (repeat' (first | assumption | refine and_lt8 ?_ _ | refine xor_lt8 ?_ ?_ | refine or_lt8 ?_ ?_))) ?_
  refine fieldAddr_by (fa46_1 _) ?_
  refine H.load 2 rfl agg5 rfl ?_
  refine build46 ?_
  refine call_fn (c169 _ _ (by first | assumption | omega | decide | (repeat' (first | assumption | refine and_lt8 ?_ _ | refine xor_lt8 ?_ ?_ | refine or_lt8 ?_ ?_))) (by first | assumption | omega | decide | (repeat' (first | assumption | refine and_lt8 ?_ _ | refine xor_lt8 ?_ ?_ | refine or_lt8 ?_ ?_))) _) ?_
  rintro _ w4 ⟨rfl, hk⟩
  replace H := H.same hk
  clear hk
  refine H.storeCube 0 rfl ?_
  clear H
  intro w5 H
  refine H.loadAll 0 rfl agg46 size46 ?_
  refine ⟨rfl, ?_⟩
  exact ⟨rfl, H.keeps⟩
theorem ent78 : enters Try.prog 78 = true := by kernel_rfl
theorem c78 (m v x y : Nat) (hm : m < 256) (hv : v < 256) (hx : x < 256) (hy : y < 256) (w : World) : Fun Try.prog 78 [cv m v, cv x y] w fun r w' => r = .bool (holdsB m v x y) ∧ Same w w' := by
  refine fun_of_W (N := 22) Try.func78 ent78 rfl rfl rfl (by simp) ?_
  have H := Hp.start0 w
  refine H.box 46 (cv _ _) (cs := cc _ _) rfl ?_
  clear H
  intro g1 w1 H
  refine H.box 46 (cv _ _) (cs := cc _ _) rfl ?_
  clear H
  intro g2 w2 H
  refine fieldAddr_by (fa46_0 _) ?_
  refine H.load 1 rfl agg5 rfl ?_
  refine fieldAddr_by (fa46_0 _) ?_
  refine H.load 0 rfl agg5 rfl ?_
  refine bin_andNot_u8 (by first | assumption | omega | (repeat' (first | assumption | refine and_lt8 ?_ _ | refine xor_lt8 ?_ ?_ | refine or_lt8 ?_ ?_))) (by first | assumption | omega | (repeat' (first | assumption | refine and_lt8 ?_ _ | refine xor_lt8 ?_ ?_ | refine or_lt8 ?_ ?_))) ?_
  refine cond_dec (fun h8 => ?_) (fun h8 => ?_)
  · refine fieldAddr_by (fa46_1 _) ?_
    refine cond_yes (decide_eq_true (by assumption)) ?_
    refine H.load 1 rfl agg5 rfl ?_
    refine cond_yes (decide_eq_true (by assumption)) ?_
    refine fieldAddr_by (fa46_1 _) ?_
    refine cond_yes (decide_eq_true (by assumption)) ?_
    refine H.load 0 rfl agg5 rfl ?_
    refine cond_yes (decide_eq_true (by assumption)) ?_
    refine bin_xor_u8 (by first | assumption | omega | (repeat' (first | assumption | refine and_lt8 ?_ _ | refine xor_lt8 ?_ ?_ | refine or_lt8 ?_ ?_))) (by first | assumption | omega | (repeat' (first | assumption | refine and_lt8 ?_ _ | refine xor_lt8 ?_ ?_ | refine or_lt8 ?_ ?_))) ?_
    refine cond_yes (decide_eq_true (by assumption)) ?_
    refine fieldAddr_by (fa46_0 _) ?_
    refine cond_yes (decide_eq_true (by assumption)) ?_
    refine H.load 1 rfl agg5 rfl ?_
    refine cond_yes (decide_eq_true (by assumption)) ?_
    refine bin_and_u8 (by first | assumption | omega | (repeat' (first | assumption | refine and_lt8 ?_ _ | refine xor_lt8 ?_ ?_ | refine or_lt8 ?_ ?_))) (by first | assumption | omega | (repeat' (first | assumption | refine and_lt8 ?_ _ | refine xor_lt8 ?_ ?_ | refine or_lt8 ?_ ?_))) ?_
    iterate 2 refine cond_yes (decide_eq_true (by assumption)) ?_
    refine ⟨congrArg Value.bool ?_, H.keeps⟩
    unfold holdsB
    rw [beq_iff_eq.2 (Int.natCast_eq_zero.1 h8), cast_beq0]; rfl
  · refine cond_no (decide_eq_false (by assumption)) ?_
    iterate 8 refine cond_no (decide_eq_false (by assumption)) ?_
    refine ⟨congrArg Value.bool ?_, H.keeps⟩
    unfold holdsB
    rw [beq_eq_false_iff_ne.2 (fun e => h8 (by rw [e]; rfl))]; rfl

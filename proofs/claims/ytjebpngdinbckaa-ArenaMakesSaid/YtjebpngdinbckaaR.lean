import Derived.Test.YtjebpngdinbckaaH
import Derived.Laws.BitsAllLaws
import Derived.Laws.BitsLemmas
/- Rules for single operations. -/
namespace Go.Dk
section
variable {P : Program} {w : World} {kk : Value → World → Prop} {t : TypeId} {xo yo : Operand}

theorem bin_quo {k : IntKind} {x y : Int} (hy : y ≠ 0) (h : kk (.int k (k.wrap (x.tdiv y))) w) : binK P .quo t xo yo (.int k x) (.int k y) w kk := by
  unfold binK; exact ⟨_, w, by simp [eqGuard, binOp, Op.intDiv, hy], h⟩
theorem bin_rem {k : IntKind} {x y : Int} (hy : y ≠ 0) (h : kk (.int k (x.tmod y)) w) : binK P .rem t xo yo (.int k x) (.int k y) w kk := by
  unfold binK; exact ⟨_, w, by simp [eqGuard, binOp, Op.intDiv, hy], h⟩
theorem bin_shl {k yk : IntKind} {x y : Int} (hy : 0 ≤ y) (h : kk (.int k (k.wrap (x * 2 ^ (min y.toNat k.bits)))) w) : binK P .shl t xo yo (.int k x) (.int yk y) w kk := by
  unfold binK; exact ⟨_, w, by simp [eqGuard, binOp, Op.shift, Int.not_lt.2 hy], h⟩
theorem bin_shr {k yk : IntKind} {x y : Int} (hy : 0 ≤ y) (h : kk (.int k (x.fdiv (2 ^ (min y.toNat k.bits)))) w) : binK P .shr t xo yo (.int k x) (.int yk y) w kk := by
  unfold binK; exact ⟨_, w, by simp [eqGuard, binOp, Op.shift, Int.not_lt.2 hy], h⟩
theorem bin_and {k : IntKind} {x y : Int} (h : kk (.int k (bits .and k x y)) w) : binK P .and t xo yo (.int k x) (.int k y) w kk := by
  unfold binK; exact ⟨_, w, by simp [eqGuard, binOp, intBits_and], h⟩
theorem bin_or {k : IntKind} {x y : Int} (h : kk (.int k (bits .or k x y)) w) : binK P .or t xo yo (.int k x) (.int k y) w kk := by
  unfold binK; exact ⟨_, w, by simp [eqGuard, binOp, intBits_or], h⟩
theorem bin_xor {k : IntKind} {x y : Int} (h : kk (.int k (bits .xor k x y)) w) : binK P .xor t xo yo (.int k x) (.int k y) w kk := by
  unfold binK; exact ⟨_, w, by simp [eqGuard, binOp, intBits_xor], h⟩
theorem bin_andNot {k : IntKind} {x y : Int} (h : kk (.int k (bits .andNot k x y)) w) : binK P .andNot t xo yo (.int k x) (.int k y) w kk := by
  unfold binK; exact ⟨_, w, by simp [eqGuard, binOp, intBits_andNot], h⟩

/-! Division and remainder of what is not below 0, by a positive number. -/
theorem quo_pos {x y : Int} (hx : 0 ≤ x) (hx' : x < 9223372036854775808) (hy : 0 < y) : IntKind.i64.wrap (x.tdiv y) = x / y := by
  rw [Int.tdiv_eq_ediv_of_nonneg hx, IntKind.wrap_i64]
  have h1 : 0 ≤ x / y := Int.ediv_nonneg hx (Int.le_of_lt hy)
  have h2 : x / y ≤ x := Int.ediv_le_self y hx
  omega
theorem bin_quo_i64 {x y : Int} (hx : 0 ≤ x) (hx' : x < 9223372036854775808) (hy : 0 < y) (h : kk (.int .i64 (x / y)) w) : binK P .quo t xo yo (.int .i64 x) (.int .i64 y) w kk :=
  bin_quo (by omega) (by rw [quo_pos hx hx' hy]; exact h)
theorem bin_rem_i64 {x y : Int} (hx : 0 ≤ x) (hy : 0 < y) (h : kk (.int .i64 (x % y)) w) : binK P .rem t xo yo (.int .i64 x) (.int .i64 y) w kk :=
  bin_rem (by omega) (by rw [Int.tmod_eq_emod_of_nonneg hx]; exact h)
theorem wrap_i64_in {x : Int} (h0 : -9223372036854775808 ≤ x) (h1 : x < 9223372036854775808) : IntKind.i64.wrap x = x := by rw [IntKind.wrap_i64]; omega
theorem wrap_u8_in {x : Int} (h0 : 0 ≤ x) (h1 : x < 256) : IntKind.u8.wrap x = x := by rw [IntKind.wrap_u8]; omega
theorem wrap_u64 (n : Int) : IntKind.u64.wrap n = n % 18446744073709551616 := by simp [IntKind.wrap, IntKind.bits, IntKind.signed]
theorem wrap_u64_in {x : Int} (h0 : 0 ≤ x) (h1 : x < 18446744073709551616) : IntKind.u64.wrap x = x := by rw [wrap_u64]; omega
theorem bin_shl_u64 {yk : IntKind} {x n : Nat} (hn : n < 64) (hx : x * 2 ^ n < 18446744073709551616) (h : kk (.int .u64 ((x * 2 ^ n : Nat) : Int)) w) : binK P .shl t xo yo (.int .u64 (x : Int)) (.int yk (n : Int)) w kk := by
  refine bin_shl (by omega) ?_
  have : min (n : Int).toNat IntKind.u64.bits = n := by simp [IntKind.bits]; omega
  rw [this, show ((x : Int) * 2 ^ n) = ((x * 2 ^ n : Nat) : Int) by simp, wrap_u64_in (by omega) (by omega)]
  exact h

theorem i64_ofInt (a : Nat) (ha : a < 9223372036854775808) : (BitVec.ofInt 64 (a : Int)).toNat = a := by
  rw [BitVec.ofInt_natCast, BitVec.toNat_ofNat]; exact Nat.mod_eq_of_lt (by omega)
theorem i64_and_nat (a b : Nat) (ha : a < 9223372036854775808) (hb : b < 9223372036854775808) : bits .and .i64 (a : Int) (b : Int) = ((a &&& b : Nat) : Int) := by
  have hx : a &&& b < 2 ^ 63 := Nat.and_lt_two_pow _ (by omega)
  show IntKind.i64.wrap ((BitVec.ofInt 64 (a : Int) &&& BitVec.ofInt 64 (b : Int)).toNat : Int) = _
  rw [BitVec.toNat_and, i64_ofInt a ha, i64_ofInt b hb, IntKind.wrap_i64]
  omega
theorem bin_and_i64 {a b : Nat} (ha : a < 9223372036854775808) (hb : b < 9223372036854775808) (h : kk (.int .i64 ((a &&& b : Nat) : Int)) w) : binK P .and t xo yo (.int .i64 (a : Int)) (.int .i64 (b : Int)) w kk :=
  bin_and (by rw [i64_and_nat a b ha hb]; exact h)
theorem bin_shr_i64 {yk : IntKind} {x n : Nat} (hn : n ≤ 64) (h : kk (.int .i64 ((x / 2 ^ n : Nat) : Int)) w) : binK P .shr t xo yo (.int .i64 (x : Int)) (.int yk (n : Int)) w kk := by
  refine bin_shr (by omega) ?_
  have : min (n : Int).toNat IntKind.i64.bits = n := by simp [IntKind.bits]; omega
  rw [this, Int.fdiv_eq_ediv_of_nonneg _ (by exact_mod_cast Nat.zero_le _)]
  have e : ((x : Int) / 2 ^ n) = ((x / 2 ^ n : Nat) : Int) := by simp
  rw [e]; exact h
theorem bin_shl_i64 {yk : IntKind} {x n : Nat} (hn : n ≤ 64) (hx : x * 2 ^ n < 9223372036854775808) (h : kk (.int .i64 ((x * 2 ^ n : Nat) : Int)) w) : binK P .shl t xo yo (.int .i64 (x : Int)) (.int yk (n : Int)) w kk := by
  refine bin_shl (by omega) ?_
  have : min (n : Int).toNat IntKind.i64.bits = n := by simp [IntKind.bits]; omega
  rw [this, show ((x : Int) * 2 ^ n) = ((x * 2 ^ n : Nat) : Int) by simp, wrap_i64_in (by omega) (by omega)]
  exact h
theorem bin_and_u64 {a b : Nat} (ha : a < 18446744073709551616) (hb : b < 18446744073709551616) (h : kk (.int .u64 ((a &&& b : Nat) : Int)) w) : binK P .and t xo yo (.int .u64 (a : Int)) (.int .u64 (b : Int)) w kk :=
  bin_and (by rw [u64_and_nat a b ha hb]; exact h)
theorem bin_or_u64 {a b : Nat} (ha : a < 18446744073709551616) (hb : b < 18446744073709551616) (h : kk (.int .u64 ((a ||| b : Nat) : Int)) w) : binK P .or t xo yo (.int .u64 (a : Int)) (.int .u64 (b : Int)) w kk :=
  bin_or (by rw [u64_or_nat a b ha hb]; exact h)
theorem bin_andNot_u64 {a b : Nat} (ha : a < 18446744073709551616) (hb : b < 18446744073709551616) (h : kk (.int .u64 ((a &&& (18446744073709551615 - b) : Nat) : Int)) w) : binK P .andNot t xo yo (.int .u64 (a : Int)) (.int .u64 (b : Int)) w kk :=
  bin_andNot (by rw [u64_andNot_nat a b ha hb]; exact h)
theorem bin_and_u8 {a b : Nat} (ha : a < 256) (hb : b < 256) (h : kk (.int .u8 ((a &&& b : Nat) : Int)) w) : binK P .and t xo yo (.int .u8 (a : Int)) (.int .u8 (b : Int)) w kk :=
  bin_and (by rw [u8_and_nat a b ha hb]; exact h)
theorem bin_or_u8 {a b : Nat} (ha : a < 256) (hb : b < 256) (h : kk (.int .u8 ((a ||| b : Nat) : Int)) w) : binK P .or t xo yo (.int .u8 (a : Int)) (.int .u8 (b : Int)) w kk :=
  bin_or (by rw [u8_or_nat a b ha hb]; exact h)
theorem bin_xor_u8 {a b : Nat} (ha : a < 256) (hb : b < 256) (h : kk (.int .u8 ((a ^^^ b : Nat) : Int)) w) : binK P .xor t xo yo (.int .u8 (a : Int)) (.int .u8 (b : Int)) w kk :=
  bin_xor (by rw [u8_xor_nat a b ha hb]; exact h)
theorem bin_andNot_u8 {a b : Nat} (ha : a < 256) (hb : b < 256) (h : kk (.int .u8 ((a &&& (255 - b) : Nat) : Int)) w) : binK P .andNot t xo yo (.int .u8 (a : Int)) (.int .u8 (b : Int)) w kk :=
  bin_andNot (by rw [u8_andNot_nat a b ha hb]; exact h)

/-! Equality of Bools, of arrays and structs of integers, of strings. -/
theorem bin_eql_bool {a b : Bool} (ht : P.underlying t = some .bool) (h : kk (.bool (a == b)) w) : binK P .eql t xo yo (.bool a) (.bool b) w kk := by
  unfold binK; exact ⟨_, w, by rw [eqGuard_at_bool]; exact run_eql_bool w t a b ht, h⟩
theorem bin_neq_bool {a b : Bool} (ht : P.underlying t = some .bool) (h : kk (.bool (a != b)) w) : binK P .neq t xo yo (.bool a) (.bool b) w kk := by
  unfold binK; exact ⟨_, w, by rw [eqGuard_at_bool]; exact run_neq_bool w t a b ht, h⟩
theorem bin_eql_str {a b : ByteArray} (h : kk (.bool (a.toList == b.toList)) w) : binK P .eql t xo yo (.string a) (.string b) w kk := by
  unfold binK; exact ⟨_, w, by rw [eqGuard_at_string]; simp [binOp, Op.stringOp], h⟩
theorem bin_neq_str {a b : ByteArray} (h : kk (.bool (!(a.toList == b.toList))) w) : binK P .neq t xo yo (.string a) (.string b) w kk := by
  unfold binK; exact ⟨_, w, by rw [eqGuard_at_string]; simp [binOp, Op.stringOp], h⟩
/-- Equality by a reckoned run, the same in all worlds. -/
theorem bin_by {op : BinOp} {x y v : Value} (hr : ∀ w, (do eqGuard op t xo yo x y; binOp op t x y : Sem Value).run P w = .ok v w) (h : kk v w) : binK P op t xo yo x y w kk := by
  unfold binK; exact ⟨_, w, hr w, h⟩

theorem bin_eql_agg {a b : Array Value} {r : Bool} (hg : P.eqGuardType P.depth t = false) (hr : ∀ w, (Op.equal t (.agg a) (.agg b)).run P w = .ok r w) (h : kk (.bool r) w) : binK P .eql t xo yo (.agg a) (.agg b) w kk :=
  bin_by (fun w => by
    have e2 : binOp .eql t (.agg a) (.agg b) = (do pure (.bool (← Op.equal t (.agg a) (.agg b))) : Sem Value) := rfl
    rw [e2]
    simp [eqGuard, hg, hr]) h
theorem bin_neq_agg {a b : Array Value} {r : Bool} (hg : P.eqGuardType P.depth t = false) (hr : ∀ w, (Op.equal t (.agg a) (.agg b)).run P w = .ok r w) (h : kk (.bool (!r)) w) : binK P .neq t xo yo (.agg a) (.agg b) w kk :=
  bin_by (fun w => by
    have e2 : binOp .neq t (.agg a) (.agg b) = (do pure (.bool (!(← Op.equal t (.agg a) (.agg b)))) : Sem Value) := rfl
    rw [e2]
    simp [eqGuard, hg, hr]) h

/-! The same with the numbers given by equations. -/
theorem bin_by_eq {op : BinOp} {kx ky : IntKind} {x y x' y' : Int} (hx : x = x') (hy : y = y') (h : binK P op t xo yo (.int kx x') (.int ky y') w kk) : binK P op t xo yo (.int kx x) (.int ky y) w kk := by subst hx; subst hy; exact h

/-! Conversions between integers. -/
theorem conv_int {s d : TypeId} {k k' : IntKind} {n : Int} (hs : (P.underlying s).isSome = true) (hd : P.underlying d = some (.int k')) (h : kk (.int k' (k'.wrap n)) w) : convK P s d (.int k n) w kk := by
  unfold convK
  refine ⟨_, w, ?_, h⟩
  cases hsd : P.underlying s with
  | none => simp [hsd] at hs
  | some ds => simp [convert, run_underlying hsd, run_underlying hd, Conv.intToInt]
theorem conv_by {s d : TypeId} {x v : Value} (hr : ∀ w, (convert s d x).run P w = .ok v w) (h : kk v w) : convK P s d x w kk := by
  unfold convK; exact ⟨_, w, hr w, h⟩

/-! Places. -/
theorem idxAddr_arr {g o o' : Nat} {i : Int} {n e s : Nat} {k : IntKind} (ht : P.underlying t = some (.array n e)) (hs : sizeT P e = some s) (i' : Nat) (hi : i = (i' : Int)) (h1 : i' < n) (ho : o + i' * s = o')
    (h : kk (.pointer (some ⟨g, o', none⟩)) w) : idxAddrK P t (.pointer (some ⟨g, o, none⟩)) (.int k i) w kk := by
  unfold idxAddrK
  subst hi; subst ho
  refine ⟨_, w, ?_, h⟩
  simp only [Instr.indexAt, asIntOf, pure_bind, Sem.run_bind, run_underlying ht, Result.andThen_ok, Instr.sureAddr]
  rw [if_pos ⟨by omega, by omega⟩]
  simp only [Sem.run_bind, run_sizeOf hs, Result.andThen_ok, Sem.run_pure, Addr.add_lit, Int.toNat_natCast]
theorem idxAddr_sl {g o o' l c : Nat} {i : Int} {e s : Nat} {k : IntKind} (ht : P.underlying t = some (.slice e)) (hs : sizeT P e = some s) (i' : Nat) (hi : i = (i' : Int)) (h1 : i' < l) (ho : o + i' * s = o')
    (h : kk (.pointer (some ⟨g, o', none⟩)) w) : idxAddrK P t (.slice (some ⟨g, o, none⟩) l c) (.int k i) w kk := by
  unfold idxAddrK
  subst hi; subst ho
  refine ⟨_, w, ?_, h⟩
  simp only [Instr.indexAt, asIntOf, pure_bind, Sem.run_bind, run_underlying ht, Result.andThen_ok]
  rw [if_pos ⟨by omega, by omega⟩]
  simp only [Sem.run_bind, run_sizeOf hs, Result.andThen_ok, Sem.run_pure, Addr.add_lit, Int.toNat_natCast]
theorem fieldAddr_at {g o i : Nat} {fs : Array Field} {fd : Field} (ht : P.underlying t = some (.struct fs)) (hf : fs[i]? = some fd) (_ : sizeT P fd.type ≠ some 0)
    (hr : ∀ w, (fieldPlace ⟨g, o, none⟩ fd).run P w = .ok ⟨g, o + fd.offset, none⟩ w) (h : kk (.pointer (some ⟨g, o + fd.offset, none⟩)) w) : fieldAddrK P t (.pointer (some ⟨g, o, none⟩)) i w kk := by
  unfold fieldAddrK
  refine ⟨_, w, ?_, h⟩
  simp [Instr.fieldAt, run_underlying ht, hf, Instr.sureAddr, hr]
theorem field_by {x v : Value} {i : Nat} (hr : ∀ w, (Instr.field t x i).run P w = .ok v w) (h : kk v w) : fieldK P t x i w kk := by
  unfold fieldK; exact ⟨_, w, hr w, h⟩
theorem fieldAddr_by {x v : Value} {i : Nat} (hr : ∀ w, (Instr.fieldAt t x i).run P w = .ok v w) (h : kk v w) : fieldAddrK P t x i w kk := by
  unfold fieldAddrK; exact ⟨_, w, hr w, h⟩
theorem build_by {ps : List (Nat × Value)} {v : Value} (hr : ∀ w, (Instr.build t ps.toArray).run P w = .ok v w) (h : kk v w) : buildK P t ps w kk := by
  unfold buildK; exact ⟨_, w, hr w, h⟩

end
end Go.Dk

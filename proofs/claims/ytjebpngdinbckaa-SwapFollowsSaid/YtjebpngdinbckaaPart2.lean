import Derived.Test.YtjebpngdinbckaaPart1
import Derived.Laws.BitsAllLaws
import Derived.Laws.BitsLemmas
import Derived.Maps.AppendAt
import Derived.MapKept
import Derived.DeepKeys5
import Derived.Laws.Cells
import Derived.Laws.BytesString
import Derived.Laws.RangeAny
import Derived.Laws.RangeString
import Derived.Laws.Strings
import Derived.Test.YtjebpngdinbckaaChecked
import Derived.KernelRfl
/- Lemmas, part 2: what the proof of the row uses. -/
section
/- Rules for single operations. -/
namespace Go.Dk
section
variable {P : Program} {w : World} {kk : Value → World → Prop} {t : TypeId} {xo yo : Operand}

theorem bin_quo {k : IntKind} {x y : Int} (hy : y ≠ 0) (h : kk (.int k (k.wrap (x.tdiv y))) w) : binK P .quo t xo yo (.int k x) (.int k y) w kk := by
  unfold binK; exact ⟨_, w, by simp [eqGuard, binOp, Op.intDiv, hy], h⟩
theorem bin_rem {k : IntKind} {x y : Int} (hy : y ≠ 0) (h : kk (.int k (x.tmod y)) w) : binK P .rem t xo yo (.int k x) (.int k y) w kk := by
  unfold binK; exact ⟨_, w, by simp [eqGuard, binOp, Op.intDiv, hy], h⟩
theorem bin_shl {k yk : IntKind} {x y : Int} (hy : 0 ≤ y) (h : kk (.int k (k.wrap (x * 2 ^ (min y.toNat k.bits)))) w) : binK P .shl t xo yo (.int k x) (.int yk y) w kk := by
  unfold binK; exact ⟨_, w, by simp [eqGuard, binOp, Op.shift, Int.not_lt.2 hy], h⟩
theorem bin_shr {k yk : IntKind} {x y : Int} (hy : 0 ≤ y) (h : kk (.int k (x.fdiv (2 ^ (min y.toNat k.bits)))) w) : binK P .shr t xo yo (.int k x) (.int yk y) w kk := by
  unfold binK; exact ⟨_, w, by simp [eqGuard, binOp, Op.shift, Int.not_lt.2 hy], h⟩
theorem bin_and {k : IntKind} {x y : Int} (h : kk (.int k (bits .and k x y)) w) : binK P .and t xo yo (.int k x) (.int k y) w kk := by
  unfold binK; exact ⟨_, w, by simp [eqGuard, binOp, intBits_and], h⟩
theorem bin_or {k : IntKind} {x y : Int} (h : kk (.int k (bits .or k x y)) w) : binK P .or t xo yo (.int k x) (.int k y) w kk := by
  unfold binK; exact ⟨_, w, by simp [eqGuard, binOp, intBits_or], h⟩
theorem bin_xor {k : IntKind} {x y : Int} (h : kk (.int k (bits .xor k x y)) w) : binK P .xor t xo yo (.int k x) (.int k y) w kk := by
  unfold binK; exact ⟨_, w, by simp [eqGuard, binOp, intBits_xor], h⟩
theorem bin_andNot {k : IntKind} {x y : Int} (h : kk (.int k (bits .andNot k x y)) w) : binK P .andNot t xo yo (.int k x) (.int k y) w kk := by
  unfold binK; exact ⟨_, w, by simp [eqGuard, binOp, intBits_andNot], h⟩

/-! Division and remainder of what is not below 0, by a positive number. -/
theorem quo_pos {x y : Int} (hx : 0 ≤ x) (hx' : x < 9223372036854775808) (hy : 0 < y) : IntKind.i64.wrap (x.tdiv y) = x / y := by
  rw [Int.tdiv_eq_ediv_of_nonneg hx, IntKind.wrap_i64]
  have h1 : 0 ≤ x / y := Int.ediv_nonneg hx (Int.le_of_lt hy)
  have h2 : x / y ≤ x := Int.ediv_le_self y hx
  omega
theorem bin_quo_i64 {x y : Int} (hx : 0 ≤ x) (hx' : x < 9223372036854775808) (hy : 0 < y) (h : kk (.int .i64 (x / y)) w) : binK P .quo t xo yo (.int .i64 x) (.int .i64 y) w kk :=
  bin_quo (by omega) (by rw [quo_pos hx hx' hy]; exact h)
theorem bin_rem_i64 {x y : Int} (hx : 0 ≤ x) (hy : 0 < y) (h : kk (.int .i64 (x % y)) w) : binK P .rem t xo yo (.int .i64 x) (.int .i64 y) w kk :=
  bin_rem (by omega) (by rw [Int.tmod_eq_emod_of_nonneg hx]; exact h)
theorem wrap_i64_in {x : Int} (h0 : -9223372036854775808 ≤ x) (h1 : x < 9223372036854775808) : IntKind.i64.wrap x = x := by rw [IntKind.wrap_i64]; omega
theorem wrap_u8_in {x : Int} (h0 : 0 ≤ x) (h1 : x < 256) : IntKind.u8.wrap x = x := by rw [IntKind.wrap_u8]; omega
theorem wrap_u64 (n : Int) : IntKind.u64.wrap n = n % 18446744073709551616 := by simp [IntKind.wrap, IntKind.bits, IntKind.signed]
theorem wrap_u64_in {x : Int} (h0 : 0 ≤ x) (h1 : x < 18446744073709551616) : IntKind.u64.wrap x = x := by rw [wrap_u64]; omega
theorem bin_shl_u64 {yk : IntKind} {x n : Nat} (hn : n < 64) (hx : x * 2 ^ n < 18446744073709551616) (h : kk (.int .u64 ((x * 2 ^ n : Nat) : Int)) w) : binK P .shl t xo yo (.int .u64 (x : Int)) (.int yk (n : Int)) w kk := by
  refine bin_shl (by omega) ?_
  have : min (n : Int).toNat IntKind.u64.bits = n := by simp [IntKind.bits]; omega
  rw [this, show ((x : Int) * 2 ^ n) = ((x * 2 ^ n : Nat) : Int) by simp, wrap_u64_in (by omega) (by omega)]
  exact h

theorem i64_ofInt (a : Nat) (ha : a < 9223372036854775808) : (BitVec.ofInt 64 (a : Int)).toNat = a := by
  rw [BitVec.ofInt_natCast, BitVec.toNat_ofNat]; exact Nat.mod_eq_of_lt (by omega)
theorem i64_and_nat (a b : Nat) (ha : a < 9223372036854775808) (hb : b < 9223372036854775808) : bits .and .i64 (a : Int) (b : Int) = ((a &&& b : Nat) : Int) := by
  have hx : a &&& b < 2 ^ 63 := Nat.and_lt_two_pow _ (by omega)
  show IntKind.i64.wrap ((BitVec.ofInt 64 (a : Int) &&& BitVec.ofInt 64 (b : Int)).toNat : Int) = _
  rw [BitVec.toNat_and, i64_ofInt a ha, i64_ofInt b hb, IntKind.wrap_i64]
  omega
theorem bin_and_i64 {a b : Nat} (ha : a < 9223372036854775808) (hb : b < 9223372036854775808) (h : kk (.int .i64 ((a &&& b : Nat) : Int)) w) : binK P .and t xo yo (.int .i64 (a : Int)) (.int .i64 (b : Int)) w kk :=
  bin_and (by rw [i64_and_nat a b ha hb]; exact h)
theorem bin_shr_i64 {yk : IntKind} {x n : Nat} (hn : n ≤ 64) (h : kk (.int .i64 ((x / 2 ^ n : Nat) : Int)) w) : binK P .shr t xo yo (.int .i64 (x : Int)) (.int yk (n : Int)) w kk := by
  refine bin_shr (by omega) ?_
  have : min (n : Int).toNat IntKind.i64.bits = n := by simp [IntKind.bits]; omega
  rw [this, Int.fdiv_eq_ediv_of_nonneg _ (by exact_mod_cast Nat.zero_le _)]
  have e : ((x : Int) / 2 ^ n) = ((x / 2 ^ n : Nat) : Int) := by simp
  rw [e]; exact h
theorem bin_shl_i64 {yk : IntKind} {x n : Nat} (hn : n ≤ 64) (hx : x * 2 ^ n < 9223372036854775808) (h : kk (.int .i64 ((x * 2 ^ n : Nat) : Int)) w) : binK P .shl t xo yo (.int .i64 (x : Int)) (.int yk (n : Int)) w kk := by
  refine bin_shl (by omega) ?_
  have : min (n : Int).toNat IntKind.i64.bits = n := by simp [IntKind.bits]; omega
  rw [this, show ((x : Int) * 2 ^ n) = ((x * 2 ^ n : Nat) : Int) by simp, wrap_i64_in (by omega) (by omega)]
  exact h
theorem bin_and_u64 {a b : Nat} (ha : a < 18446744073709551616) (hb : b < 18446744073709551616) (h : kk (.int .u64 ((a &&& b : Nat) : Int)) w) : binK P .and t xo yo (.int .u64 (a : Int)) (.int .u64 (b : Int)) w kk :=
  bin_and (by rw [u64_and_nat a b ha hb]; exact h)
theorem bin_or_u64 {a b : Nat} (ha : a < 18446744073709551616) (hb : b < 18446744073709551616) (h : kk (.int .u64 ((a ||| b : Nat) : Int)) w) : binK P .or t xo yo (.int .u64 (a : Int)) (.int .u64 (b : Int)) w kk :=
  bin_or (by rw [u64_or_nat a b ha hb]; exact h)
theorem bin_andNot_u64 {a b : Nat} (ha : a < 18446744073709551616) (hb : b < 18446744073709551616) (h : kk (.int .u64 ((a &&& (18446744073709551615 - b) : Nat) : Int)) w) : binK P .andNot t xo yo (.int .u64 (a : Int)) (.int .u64 (b : Int)) w kk :=
  bin_andNot (by rw [u64_andNot_nat a b ha hb]; exact h)
theorem bin_and_u8 {a b : Nat} (ha : a < 256) (hb : b < 256) (h : kk (.int .u8 ((a &&& b : Nat) : Int)) w) : binK P .and t xo yo (.int .u8 (a : Int)) (.int .u8 (b : Int)) w kk :=
  bin_and (by rw [u8_and_nat a b ha hb]; exact h)
theorem bin_or_u8 {a b : Nat} (ha : a < 256) (hb : b < 256) (h : kk (.int .u8 ((a ||| b : Nat) : Int)) w) : binK P .or t xo yo (.int .u8 (a : Int)) (.int .u8 (b : Int)) w kk :=
  bin_or (by rw [u8_or_nat a b ha hb]; exact h)
theorem bin_xor_u8 {a b : Nat} (ha : a < 256) (hb : b < 256) (h : kk (.int .u8 ((a ^^^ b : Nat) : Int)) w) : binK P .xor t xo yo (.int .u8 (a : Int)) (.int .u8 (b : Int)) w kk :=
  bin_xor (by rw [u8_xor_nat a b ha hb]; exact h)
theorem bin_andNot_u8 {a b : Nat} (ha : a < 256) (hb : b < 256) (h : kk (.int .u8 ((a &&& (255 - b) : Nat) : Int)) w) : binK P .andNot t xo yo (.int .u8 (a : Int)) (.int .u8 (b : Int)) w kk :=
  bin_andNot (by rw [u8_andNot_nat a b ha hb]; exact h)

/-! Equality of Bools, of arrays and structs of integers, of strings. -/
theorem bin_eql_bool {a b : Bool} (ht : P.underlying t = some .bool) (h : kk (.bool (a == b)) w) : binK P .eql t xo yo (.bool a) (.bool b) w kk := by
  unfold binK; exact ⟨_, w, by rw [eqGuard_at_bool]; exact run_eql_bool w t a b ht, h⟩
theorem bin_neq_bool {a b : Bool} (ht : P.underlying t = some .bool) (h : kk (.bool (a != b)) w) : binK P .neq t xo yo (.bool a) (.bool b) w kk := by
  unfold binK; exact ⟨_, w, by rw [eqGuard_at_bool]; exact run_neq_bool w t a b ht, h⟩
theorem bin_eql_str {a b : ByteArray} (h : kk (.bool (a.toList == b.toList)) w) : binK P .eql t xo yo (.string a) (.string b) w kk := by
  unfold binK; exact ⟨_, w, by rw [eqGuard_at_string]; simp [binOp, Op.stringOp], h⟩
theorem bin_neq_str {a b : ByteArray} (h : kk (.bool (!(a.toList == b.toList))) w) : binK P .neq t xo yo (.string a) (.string b) w kk := by
  unfold binK; exact ⟨_, w, by rw [eqGuard_at_string]; simp [binOp, Op.stringOp], h⟩
/-- Equality by a reckoned run, the same in all worlds. -/
theorem bin_by {op : BinOp} {x y v : Value} (hr : ∀ w, (do eqGuard op t xo yo x y; binOp op t x y : Sem Value).run P w = .ok v w) (h : kk v w) : binK P op t xo yo x y w kk := by
  unfold binK; exact ⟨_, w, hr w, h⟩

theorem bin_eql_agg {a b : Array Value} {r : Bool} (hg : P.eqGuardType P.depth t = false) (hr : ∀ w, (Op.equal t (.agg a) (.agg b)).run P w = .ok r w) (h : kk (.bool r) w) : binK P .eql t xo yo (.agg a) (.agg b) w kk :=
  bin_by (fun w => by
    have e2 : binOp .eql t (.agg a) (.agg b) = (do pure (.bool (← Op.equal t (.agg a) (.agg b))) : Sem Value) := rfl
    rw [e2]
    simp [eqGuard, hg, hr]) h
theorem bin_neq_agg {a b : Array Value} {r : Bool} (hg : P.eqGuardType P.depth t = false) (hr : ∀ w, (Op.equal t (.agg a) (.agg b)).run P w = .ok r w) (h : kk (.bool (!r)) w) : binK P .neq t xo yo (.agg a) (.agg b) w kk :=
  bin_by (fun w => by
    have e2 : binOp .neq t (.agg a) (.agg b) = (do pure (.bool (!(← Op.equal t (.agg a) (.agg b)))) : Sem Value) := rfl
    rw [e2]
    simp [eqGuard, hg, hr]) h

/-! The same with the numbers given by equations. -/
theorem bin_by_eq {op : BinOp} {kx ky : IntKind} {x y x' y' : Int} (hx : x = x') (hy : y = y') (h : binK P op t xo yo (.int kx x') (.int ky y') w kk) : binK P op t xo yo (.int kx x) (.int ky y) w kk := by subst hx; subst hy; exact h

/-! Conversions between integers. -/
theorem conv_int {s d : TypeId} {k k' : IntKind} {n : Int} (hs : (P.underlying s).isSome = true) (hd : P.underlying d = some (.int k')) (h : kk (.int k' (k'.wrap n)) w) : convK P s d (.int k n) w kk := by
  unfold convK
  refine ⟨_, w, ?_, h⟩
  cases hsd : P.underlying s with
  | none => simp [hsd] at hs
  | some ds => simp [convert, run_underlying hsd, run_underlying hd, Conv.intToInt]
theorem conv_by {s d : TypeId} {x v : Value} (hr : ∀ w, (convert s d x).run P w = .ok v w) (h : kk v w) : convK P s d x w kk := by
  unfold convK; exact ⟨_, w, hr w, h⟩

/-! Places. -/
theorem idxAddr_arr {g o o' : Nat} {i : Int} {n e s : Nat} {k : IntKind} (ht : P.underlying t = some (.array n e)) (hs : sizeT P e = some s) (i' : Nat) (hi : i = (i' : Int)) (h1 : i' < n) (ho : o + i' * s = o')
    (h : kk (.pointer (some ⟨g, o', none⟩)) w) : idxAddrK P t (.pointer (some ⟨g, o, none⟩)) (.int k i) w kk := by
  unfold idxAddrK
  subst hi; subst ho
  refine ⟨_, w, ?_, h⟩
  simp only [Instr.indexAt, asIntOf, pure_bind, Sem.run_bind, run_underlying ht, Result.andThen_ok, Instr.sureAddr]
  rw [if_pos ⟨by omega, by omega⟩]
  simp only [Sem.run_bind, run_sizeOf hs, Result.andThen_ok, Sem.run_pure, Addr.add_lit, Int.toNat_natCast]
theorem idxAddr_sl {g o o' l c : Nat} {i : Int} {e s : Nat} {k : IntKind} (ht : P.underlying t = some (.slice e)) (hs : sizeT P e = some s) (i' : Nat) (hi : i = (i' : Int)) (h1 : i' < l) (ho : o + i' * s = o')
    (h : kk (.pointer (some ⟨g, o', none⟩)) w) : idxAddrK P t (.slice (some ⟨g, o, none⟩) l c) (.int k i) w kk := by
  unfold idxAddrK
  subst hi; subst ho
  refine ⟨_, w, ?_, h⟩
  simp only [Instr.indexAt, asIntOf, pure_bind, Sem.run_bind, run_underlying ht, Result.andThen_ok]
  rw [if_pos ⟨by omega, by omega⟩]
  simp only [Sem.run_bind, run_sizeOf hs, Result.andThen_ok, Sem.run_pure, Addr.add_lit, Int.toNat_natCast]
theorem fieldAddr_at {g o i : Nat} {fs : Array Field} {fd : Field} (ht : P.underlying t = some (.struct fs)) (hf : fs[i]? = some fd) (_ : sizeT P fd.type ≠ some 0)
    (hr : ∀ w, (fieldPlace ⟨g, o, none⟩ fd).run P w = .ok ⟨g, o + fd.offset, none⟩ w) (h : kk (.pointer (some ⟨g, o + fd.offset, none⟩)) w) : fieldAddrK P t (.pointer (some ⟨g, o, none⟩)) i w kk := by
  unfold fieldAddrK
  refine ⟨_, w, ?_, h⟩
  simp [Instr.fieldAt, run_underlying ht, hf, Instr.sureAddr, hr]
theorem field_by {x v : Value} {i : Nat} (hr : ∀ w, (Instr.field t x i).run P w = .ok v w) (h : kk v w) : fieldK P t x i w kk := by
  unfold fieldK; exact ⟨_, w, hr w, h⟩
theorem fieldAddr_by {x v : Value} {i : Nat} (hr : ∀ w, (Instr.fieldAt t x i).run P w = .ok v w) (h : kk v w) : fieldAddrK P t x i w kk := by
  unfold fieldAddrK; exact ⟨_, w, hr w, h⟩
theorem build_by {ps : List (Nat × Value)} {v : Value} (hr : ∀ w, (Instr.build t ps.toArray).run P w = .ok v w) (h : kk v w) : buildK P t ps w kk := by
  unfold buildK; exact ⟨_, w, hr w, h⟩

end
end Go.Dk
end

section
/- Slices: one's own, and those that are only read. -/
namespace Go.Dk

/-- A slice type, by the tables. -/
structure SlT (P : Program) (t e : TypeId) (z : Value) (sz by_ : Nat) : Prop where
  und : P.underlying t = some (.slice e)
  info : (P.info? e).map (fun i => (i.zero, i.size, i.bytes)) = some (some z, sz, by_)
  zs : z.cells.size = sz
  pos : 0 < sz

theorem SlT.size {P : Program} {t e : TypeId} {z : Value} {sz b : Nat} (T : SlT P t e z sz b) : sizeT P e = some sz := by
  have h := T.info
  unfold sizeT
  cases hq : P.info? e with
  | none => simp [hq] at h
  | some i => simp [hq] at h; simp [h]
theorem SlT.parts {P : Program} {t e : TypeId} {z : Value} {sz b : Nat} (T : SlT P t e z sz b) : ∃ i, P.info? e = some i ∧ i.zero = some z ∧ i.size = sz ∧ i.bytes = b := by
  have h := T.info
  cases hq : P.info? e with
  | none => simp [hq] at h
  | some i => simp [hq] at h; exact ⟨i, rfl, h.1, h.2.1, h.2.2⟩

/-- A slice of one's own, of n elements: its cells. -/
def own (e : TypeId) (sz : Nat) (v : Value) (n : Nat) (xs : List Value) : Res :=
  ⟨fun g => v.ownBlock = some g, fun w => w.ownsRow 0 e sz v n xs, fun w w' h ⟨h1, h2⟩ => ⟨h1, h2.imp id fun ⟨g, cap, cur, hv, h3, h4, h5⟩ => ⟨g, cap, cur, hv, h3, (h g (by subst hv; rfl)).trans h4, h5⟩⟩⟩

/-- A slice that is read: its block is one of S. -/
def sl (S : Nat → Prop) (v : Value) (sz n : Nat) (xs : List Value) : Res :=
  ⟨S, fun w => xs.length = n * sz ∧ ∃ A c, v = .slice A n c ∧ n ≤ c ∧ (n = 0 ∨ ∃ g o, A = some ⟨g, o, none⟩ ∧ S g ∧ ∀ j, j < n * sz → w.cell? ⟨g, o + j, none⟩ = xs[j]?),
    fun w w' h ⟨h1, A, c, hv, hc, h2⟩ => ⟨h1, A, c, hv, hc, h2.imp id fun ⟨g, o, hA, hS, hx⟩ => ⟨g, o, hA, hS, fun j hj => by
      rw [← hx j hj]; unfold World.cell?; rw [h g hS]⟩⟩⟩
/-- A slice that is read, wherever it lies. -/
def Sl (w : World) (v : Value) (sz n : Nat) (xs : List Value) : Prop := (sl (fun g => g < w.heap.size) v sz n xs).ok w

theorem sl.mono {S S' : Nat → Prop} {v : Value} {sz n : Nat} {xs : List Value} {w : World} (h : (sl S v sz n xs).ok w) (hS : ∀ g, S g → S' g) : (sl S' v sz n xs).ok w :=
  let ⟨h1, A, c, hv, hc, h2⟩ := h
  ⟨h1, A, c, hv, hc, h2.imp id fun ⟨g, o, hA, hg, hx⟩ => ⟨g, o, hA, hS g hg, hx⟩⟩
theorem own_cell {w : World} {e : TypeId} {sz n : Nat} {g c : Nat} {xs : List Value} (h : (own e sz (.slice (some ⟨g, 0, none⟩) n c) n xs).ok w) (j : Nat) (hj : j < n * sz) : w.cell? ⟨g, j, none⟩ = xs[j]? :=
  World.ownsRow.cellAt (w := w) (base := 0) h j hj
theorem own_sl {w : World} {e : TypeId} {sz : Nat} {v : Value} {n : Nat} {xs : List Value} (h : (own e sz v n xs).ok w) : (sl (fun g => v.ownBlock = some g) v sz n xs).ok w := by
  obtain ⟨h1, h2⟩ := h
  rcases h2 with ⟨rfl, rfl⟩ | ⟨g, cap, cur, rfl, _, hh, hc, _, hcs, htake⟩
  · exact ⟨h1, none, 0, rfl, Nat.le_refl _, .inl rfl⟩
  · refine ⟨h1, _, cap, rfl, hc, .inr ⟨g, 0, rfl, rfl, fun j hj => ?_⟩⟩
    rw [Nat.zero_add]
    exact own_cell ⟨h1, .inr ⟨g, cap, cur, rfl, Nat.zero_le _, hh, hc, ‹_›, hcs, htake⟩⟩ j hj
theorem own_Sl {w : World} {e : TypeId} {sz : Nat} {v : Value} {n : Nat} {xs : List Value} (h : (own e sz v n xs).ok w) : Sl w v sz n xs :=
  sl.mono (own_sl h) fun g hg => (World.ownsRow.lt (w := w) (base := 0) h g hg).2
theorem Sl_of_sl {S : Nat → Prop} {v : Value} {sz n : Nat} {xs : List Value} {w : World} (h : (sl S v sz n xs).ok w) (hS : ∀ g, S g → g < w.heap.size) : Sl w v sz n xs := sl.mono h hS
theorem Sl.same {w w' : World} {v : Value} {sz n : Nat} {xs : List Value} (h : Sl w v sz n xs) (hk : Same w w') : Sl w' v sz n xs :=
  sl.mono ((sl _ v sz n xs).stable w w' (fun g hg => hk.old g hg id) h) fun _ hg => Nat.lt_of_lt_of_le hg hk.size

/-- What a call hands back that is new. -/
structure NewR (w w' : World) (r : Res) : Prop where
  keeps : Same w w'
  ok : r.ok w'
  foot : ∀ g, r.foot g → w.heap.size ≤ g ∧ g < w'.heap.size

section
variable {P : Program} {w0 w w' : World} {F : Nat → Prop} {L M : List Res} {k kk : Value → World → Prop}

theorem Hp.addNew {r : Res} (H : Hp w0 F w L M) (h : NewR w w' r) : Hp w0 F w' (r :: L) M := H.add h.keeps r h.ok h.foot
theorem Hp.out {r : Res} (H : Hp w (fun _ => False) w' (r :: L) M) : NewR w w' r :=
  ⟨H.keeps, H.ok r (.head _), fun g hg => ⟨(H.new r (.head _) g hg).resolve_right id, H.lt r (.head _) g hg⟩⟩
theorem Hp.outAt {r : Res} (H : Hp w (fun _ => False) w' L M) (n : Nat) (hn : L[n]? = some r) : NewR w w' r :=
  have hm := List.mem_of_getElem? hn
  ⟨H.keeps, H.ok r hm, fun g hg => ⟨(H.new r hm g hg).resolve_right id, H.lt r hm g hg⟩⟩

/-- nil, a slice of one's own. -/
theorem Hp.ownNil (H : Hp w0 F w L M) (e : TypeId) (sz : Nat) : Hp w0 F w (own e sz (.slice none 0 0) 0 [] :: L) M :=
  H.add (Keeps.refl _ _) _ (World.ownsRow_nil w 0 e sz) (fun g hg => by cases hg)

theorem Hp.ownA (H : Hp w0 F w L M) (n : Nat) {e : TypeId} {sz : Nat} {A : Option Addr} {l c : Nat} {xs : List Value} (hn : L[n]? = some (own e sz (.slice A l c) l xs)) (hl : 0 < l) :
    ∃ g, A = some ⟨g, 0, none⟩ := by
  obtain ⟨h1, h2⟩ := H.get n hn
  rcases h2 with ⟨_, rfl⟩ | ⟨g, cap, cur, hv, _⟩
  · omega
  · injection hv with hA _ _; exact ⟨g, hA⟩
theorem Hp.ownLen (H : Hp w0 F w L M) (n : Nat) {e : TypeId} {sz : Nat} {v : Value} {l : Nat} {xs : List Value} (hn : L[n]? = some (own e sz v l xs)) : xs.length = l * sz := (H.get n hn).1
theorem Hp.ownV (H : Hp w0 F w L M) (n : Nat) {e : TypeId} {sz : Nat} {v : Value} {l : Nat} {xs : List Value} (hn : L[n]? = some (own e sz v l xs)) : ∃ A c, v = .slice A l c := by
  obtain ⟨h1, h2⟩ := H.get n hn
  rcases h2 with ⟨rfl, rfl⟩ | ⟨g, cap, cur, hv, _⟩
  · exact ⟨_, _, rfl⟩
  · exact ⟨_, _, hv⟩
theorem Sl.A {sz l : Nat} {xs : List Value} {A : Option Addr} {c : Nat} (h : Sl w (.slice A l c) sz l xs) (hl : 0 < l) : ∃ g o, A = some ⟨g, o, none⟩ := by
  obtain ⟨h1, A', c', hv, _, h2⟩ := h
  injection hv with hA _ _
  subst hA
  rcases h2 with rfl | ⟨g, o, hA, _⟩
  · omega
  · exact ⟨g, o, hA⟩
theorem Sl.V {v : Value} {sz l : Nat} {xs : List Value} (h : Sl w v sz l xs) : ∃ A c, v = .slice A l c := let ⟨_, A, c, hv, _⟩ := h; ⟨A, c, hv⟩
theorem Sl.cell {sz l g o c : Nat} {xs : List Value} (h : Sl w (.slice (some ⟨g, o, none⟩) l c) sz l xs) (j : Nat) (hj : j < l * sz) : w.cell? ⟨g, o + j, none⟩ = xs[j]? := by
  obtain ⟨h1, A', c', hv, _, h2⟩ := h
  injection hv with hA _ _
  subst hA
  rcases h2 with rfl | ⟨g', o', hA, _, hx⟩
  · simp at hj
  · injection hA with hA; injection hA with e1 e2 _; subst e1; subst e2; exact hx j hj

/-- An element read. -/
theorem Hp.loadOwn (H : Hp w0 F w L M) (n : Nat) {e ty : TypeId} {sz g i l c : Nat} {xs : List Value} {u : Value} (hn : L[n]? = some (own e sz (.slice (some ⟨g, 0, none⟩) l c) l xs)) (hagg : aggT P ty = some false)
    (hx : xs[i]? = some u) (h : k u w) : loadK P ty (.pointer (some ⟨g, i, none⟩)) w k := by
  have hok := H.get n hn
  have hlen := hok.1
  refine load_cell hagg ?_ h
  rw [own_cell hok i (by have := (List.getElem?_eq_some_iff.1 hx).1; omega), hx]
/-- An element of a slice that is only read, of a world at the call's begin. -/
theorem Hp.loadSl (H : Hp w0 (fun _ => False) w L M) {ty : TypeId} {sz g o i l c : Nat} {xs : List Value} {u : Value} (hs : Sl w0 (.slice (some ⟨g, o, none⟩) l c) sz l xs) (hagg : aggT P ty = some false)
    (o' : Nat) (ho : o' = o + i) (hx : xs[i]? = some u) (h : k u w) : loadK P ty (.pointer (some ⟨g, o', none⟩)) w k := by
  subst ho
  have hs' := hs.same H.keeps
  have hlen := hs.1
  refine load_cell hagg ?_ h
  rw [hs'.cell i (by have := (List.getElem?_eq_some_iff.1 hx).1; omega), hx]
/-- An element written. -/
theorem Hp.storeOwn (H : Hp w0 F w L M) (n : Nat) {e ty : TypeId} {sz g i l c : Nat} {xs : List Value} {u : Value} (hn : L[n]? = some (own e sz (.slice (some ⟨g, 0, none⟩) l c) l xs)) (hs : sizeT P ty = some 1)
    (hi : i < xs.length) (h1 : u.oneCell' = true) (h : ∀ w', Hp w0 F w' (L.set n (own e sz (.slice (some ⟨g, 0, none⟩) l c) l (xs.set i u))) M → k undef w') : storeK P ty (.pointer (some ⟨g, i, none⟩)) u w k := by
  have hok := H.get n hn
  have hlen := hok.1
  have hcell : w.cell? ⟨g, i, none⟩ = some xs[i] := by rw [own_cell hok i (by omega)]; exact List.getElem?_eq_getElem hi
  have hfz : w.frozen? ⟨g, i, none⟩ = false := World.ownsRow.frozenAt (w := w) (base := 0) hok i
  have hcells : u.cells = #[u] := by cases u <;> first | rfl | cases h1
  unfold storeK
  have hown := (World.ownsRow.stored (w := w) (base := 0) hok i u).1
  refine ⟨w.setCell ⟨g, i, none⟩ u, ?_, h _ (H.turn n hn _ ((Keeps.setCell w ⟨g, i, none⟩ u).mono fun x hx => by subst hx; rfl) hown ?_)⟩
  · have hst := run_store P w ⟨g, i, none⟩ u .plain h1
    have hadd : (⟨g, i, none⟩ : Addr).add 0 = ⟨g, i, none⟩ := by simp [Addr.add]
    simp [Instr.storeAt, Instr.sureAddr, storeVar, hcells, run_sizeOf hs, storeCells, hadd, hst, hcell, hfz]
  · intro x hx
    exact ⟨by simpa using (World.ownsRow.lt (w := w) (base := 0) hok x hx).2, .inl hx⟩

/-- len. -/
theorem len_sl {t e ty : TypeId} {cs : Array Bool} {A : Option Addr} {n c : Nat} (ht : P.underlying t = some (.slice e)) (h : kk (.int .i64 (n : Int)) w) : builtinK P .len #[t] ty cs [.slice A n c] w kk := by
  unfold builtinK
  refine ⟨_, w, ?_, h⟩
  show (do pure (.value (← Builtin.len_ #[t] ty #[.slice A n c])) : Sem Next).run P w = _
  simp [Builtin.len_, run_underlying ht, goInt]
theorem len_str {t ty : TypeId} {cs : Array Bool} {s : ByteArray} (ht : P.underlying t = some .string) (h : kk (.int .i64 (s.size : Int)) w) : builtinK P .len #[t] ty cs [.string s] w kk := by
  unfold builtinK
  refine ⟨_, w, ?_, h⟩
  show (do pure (.value (← Builtin.len_ #[t] ty #[.string s])) : Sem Next).run P w = _
  simp [Builtin.len_, run_underlying ht, goInt]

/-- A literal slice. -/
theorem Hp.buildSl (H : Hp w0 F w L M) {t e : TypeId} {z : Value} {sz b n : Nat} {ps : List (Nat × Value)} {cs : Array Value} (T : SlT P t e z sz b) (hn : 0 < n) (hsm : n * sz ≤ 16777216)
    (hf : Instr.fill (fun i => some (i * sz, sz)) ((Array.range (n * sz)).map (z.cells[· % z.cells.size]!)) ps = some cs)
    (h : ∀ g w', Hp w0 F w' (blk g e cs :: L) M → k (.slice (some ⟨g, 0, none⟩) n n) w') : buildSliceK P t n ps w k := by
  unfold buildSliceK
  refine ⟨_, w.alloc (.cells cs e), ?_, h w.heap.size _ (H.add (Keeps.alloc _ _) _ (heap_alloc_new w _) ?_)⟩
  · obtain ⟨i, hi, hz, hs, hb⟩ := T.parts
    have hnz : n * sz ≠ 0 := Nat.mul_ne_zero (by omega) (by have := T.pos; omega)
    have hzr : zeroT P e = some z := by unfold zeroT; rw [hi]; exact hz
    simp only [Instr.buildSlice, Sem.run_bind, run_underlying T.und, Result.andThen_ok, run_sizeOf T.size]
    rw [if_neg (by omega)]
    simp only [hnz, if_false, Sem.run_bind, run_zero hzr, Result.andThen_ok, Sem.run_pure, hf]
    simp [newRow]
  · rintro g rfl; exact ⟨Nat.le_refl _, by simp⟩
/-- The one-element slice that an append lays first. -/
theorem fill_one {x z : Value} (hx : x.cells = #[x]) (hz : z.cells.size = 1) : Instr.fill (fun i => some (i * 1, 1)) ((Array.range (1 * 1)).map (z.cells[· % z.cells.size]!)) [(0, x)] = some #[x] := by
  have : (Array.range (1 * 1)).map (fun i => z.cells[i % z.cells.size]!) = #[z.cells[0]!] := by
    simp [hz]; exact ⟨0, by decide, getElem!_pos z.cells 0 (by omega)⟩
  rw [this]
  simp only [Instr.fill, hx]
  simp
theorem Hp.buildOne (H : Hp w0 F w L M) {t e : TypeId} {z x : Value} {b : Nat} (T : SlT P t e z 1 b) (hx : x.cells = #[x])
    (h : ∀ g w', Hp w0 F w' (blk g e #[x] :: L) M → k (.slice (some ⟨g, 0, none⟩) 1 1) w') : buildSliceK P t 1 [(0, x)] w k :=
  H.buildSl T (by omega) (by omega) (fill_one hx T.zs) h

/-- append onto one's own slice, of cells that lie in a block of one's own; what was at n is turned, the others stay. -/
theorem Hp.appendBlk (H : Hp w0 F w L M) (n : Nat) (m : Nat) {t e ty : TypeId} {z v : Value} {sz b l g c d : Nat} {xs : List Value} {cs : Array Value} {cst : Array Bool} (T : SlT P t e z sz b)
    (hn : L[n]? = some (own e sz v l xs)) (hm : L[m]? = some (blk g e cs)) (hcs : cs.size = c * sz) (h1 : ∀ u ∈ cs.toList, u.oneCell' = true) (hl : (l + c) * b ≤ 140737488355328) (hl' : l + c < 1152921504606846976)
    (h : ∀ A d w', Hp w0 F w' (L.set n (own e sz (.slice A (l + c) d) (l + c) (xs ++ cs.toList))) M → kk (.slice A (l + c) d) w') :
    builtinK P .append #[t, t] ty cst [v, .slice (some ⟨g, 0, none⟩) c d] w kk := by
  obtain ⟨i, hi, hz, hs, hb⟩ := T.parts
  have hown : w.ownsRow 0 e sz v l xs := H.get n hn
  have hblk := H.get m hm
  obtain ⟨v', w', hrun, hown', hg, _, hloc⟩ := run_append_own_at (P := P) w 0 t ty e i z sz b T.und hi hz hs hb T.zs T.pos v l xs hown ⟨g, 0, none⟩ c d cs.toList (by simp [hcs])
    (fun j u hu => by
      have hadd : (⟨g, 0, none⟩ : Addr).add j = ⟨g, j, none⟩ := by unfold Addr.add; split <;> simp_all
      rw [hadd, blk_cell hblk]; simpa using hu) h1 (by unfold maxLen; omega) hl (Nat.zero_le _)
  have hk : Keeps (own e sz v l xs).foot w w' := ⟨hg.os, hg.tape, hg.output, hg.size, fun x hx hne => hg.block x hx fun e => hne e.symm⟩
  have H' := H.turn n hn (own e sz v' (l + c) (xs ++ cs.toList)) hk hown' (fun x hx => ⟨(World.ownsRow.lt (w := w') (base := 0) hown' x hx).2, by
    have hx' : v'.ownBlock = some x := hx
    rcases hloc with h | h
    · left; show v.ownBlock = some x; rw [← h]; exact hx'
    · right; rw [h] at hx'; injection hx' with hx'; omega⟩)
  have hv : ∃ A d, v' = .slice A (l + c) d := by
    rcases hown'.2 with ⟨rfl, h0⟩ | ⟨g', cap, cur, hv, _⟩
    · exact ⟨none, 0, by rw [h0]⟩
    · exact ⟨_, _, hv⟩
  obtain ⟨A, d', rfl⟩ := hv
  unfold builtinK
  refine ⟨_, w', ?_, h A d' w' H'⟩
  show (do pure (.value (← Builtin.append_ #[t, t] ty #[v, .slice (some ⟨g, 0, none⟩) c d])) : Sem Next).run P w = _
  rw [Sem.run_bind, hrun]
  rfl
/-- append of one element: buildSlice, then append. -/
theorem Hp.appendOne {g : Nat} {e : TypeId} {x : Value} (H : Hp w0 F w (blk g e #[x] :: L) M) (n : Nat) {t ty : TypeId} {z v : Value} {b l d : Nat} {xs : List Value} {cst : Array Bool} (T : SlT P t e z 1 b)
    (hn : L[n]? = some (own e 1 v l xs)) (h1 : x.oneCell' = true) (hl : (l + 1) * b ≤ 140737488355328) (hl' : l + 1 < 1152921504606846976)
    (h : ∀ A d w', Hp w0 F w' (L.set n (own e 1 (.slice A (l + 1) d) (l + 1) (xs ++ [x]))) M → kk (.slice A (l + 1) d) w') :
    builtinK P .append #[t, t] ty cst [v, .slice (some ⟨g, 0, none⟩) 1 d] w kk :=
  H.appendBlk (n + 1) 0 T (by simpa using hn) rfl rfl (by simpa using h1) hl hl' fun A d w' H' => h A d w' (by simpa using H'.forget)

/-- make. -/
theorem Hp.make (H : Hp w0 F w L M) {t e : TypeId} {z : Value} {sz b : Nat} (T : SlT P t e z sz b) {kl kc : IntKind} (n : Nat) {i j : Int} (hi : i = (n : Int)) (hj : j = (n : Int)) (hb : b * n ≤ 281474976710656) (hn : n < 1152921504606846976)
    (h : ∀ g w', Hp w0 F w' (own e sz (.slice (some ⟨g, 0, none⟩) n n) n (madeCells z.cells (n * sz)).toList :: L) M → k (.slice (some ⟨g, 0, none⟩) n n) w') : makeSliceK P t (.int kl i) (.int kc j) w k := by
  subst hi; subst hj
  obtain ⟨i, hi, hz, hs, hby⟩ := T.parts
  obtain ⟨w', hr, hown, hg⟩ := run_make_full (P := P) w 0 t e i z sz T.und hi hz hs kl kc n (by rw [hby]; exact hb) (by unfold maxLen; omega) (Nat.zero_le _)
  unfold makeSliceK
  refine ⟨_, w', hr, h w.heap.size w' (H.add ⟨hg.os, hg.tape, hg.output, hg.size, fun x hx _ => hg.block x hx (by simp)⟩ _ hown fun x hx => ?_)⟩
  have h2 := (World.ownsRow.lt (w := w') (base := 0) hown x hx).2
  have hx' : w.heap.size = x := by injection hx
  exact ⟨by omega, h2⟩
end
end Go.Dk
end

section
/- Maps: what they hold, and the operations on them. -/
namespace Go.Dk
open Go.MapKept (Stamped)

/-! ### Plain: lists of keys and values -/
section
variable {α β : Type} [DecidableEq α]
def aget (l : List (α × β)) (a : α) : Option β := (l.find? fun p => decide (p.1 = a)).map (·.2)
def aset (l : List (α × β)) (a : α) (b : β) : List (α × β) :=
  if (aget l a).isSome then l.map fun p => if p.1 = a then (a, b) else p else l ++ [(a, b)]
def adel (l : List (α × β)) (a : α) : List (α × β) := l.filter fun p => !decide (p.1 = a)
def akeys (l : List (α × β)) : List α := l.map (·.1)

theorem aget_none {l : List (α × β)} {a : α} : aget l a = none ↔ ∀ p ∈ l, p.1 ≠ a := by
  unfold aget
  rw [Option.map_eq_none_iff, List.find?_eq_none]
  simp
theorem aget_mem {l : List (α × β)} {a : α} {b : β} (h : aget l a = some b) : (a, b) ∈ l := by
  unfold aget at h
  rw [Option.map_eq_some_iff] at h
  obtain ⟨p, hp, rfl⟩ := h
  have h1 := List.find?_some hp
  have h2 := List.mem_of_find?_eq_some hp
  simp at h1
  subst h1
  exact h2
theorem aget_of_mem {l : List (α × β)} (hn : (akeys l).Nodup) {a : α} {b : β} (h : (a, b) ∈ l) : aget l a = some b := by
  induction l with
  | nil => cases h
  | cons p l ih =>
    simp only [akeys, List.map_cons, List.nodup_cons] at hn
    rcases List.mem_cons.1 h with rfl | h
    · simp [aget]
    · have hne : p.1 ≠ a := fun e => hn.1 (by rw [e]; exact List.mem_map.2 ⟨_, h, rfl⟩)
      have := ih hn.2 h
      simpa [aget, List.find?_cons, hne] using this
theorem aget_nil (a : α) : aget ([] : List (α × β)) a = none := rfl
theorem aget_map (l : List (α × β)) (a c : α) (b : β) : aget (l.map fun p => if p.1 = a then (a, b) else p) c = if c = a then (aget l c).map (fun _ => b) else aget l c := by
  induction l with
  | nil => simp [aget]
  | cons p l ih =>
    by_cases hp : p.1 = c
    · subst hp
      by_cases hc : p.1 = a
      · simp [aget, List.find?_cons, hc]
      · simp [aget, List.find?_cons, hc]
    · have e1 : aget (p :: l) c = aget l c := by simp [aget, List.find?_cons, hp]
      have e2 : aget ((p :: l).map fun p => if p.1 = a then (a, b) else p) c = aget (l.map fun p => if p.1 = a then (a, b) else p) c := by
        by_cases hc : p.1 = a
        · have : ¬ a = c := fun h => hp (hc.trans h)
          simp [aget, List.find?_cons, hc, this]
        · simp [aget, List.find?_cons, hc, hp]
      rw [e1, e2, ih]
theorem aget_append (l m : List (α × β)) (c : α) : aget (l ++ m) c = (aget l c).or (aget m c) := by
  unfold aget
  rw [List.find?_append]
  cases l.find? fun p => decide (p.1 = c) <;> simp
theorem aget_aset (l : List (α × β)) (a c : α) (b : β) : aget (aset l a b) c = if c = a then some b else aget l c := by
  unfold aset
  split
  · rename_i h
    rw [aget_map]
    split
    · rename_i hc; subst hc
      obtain ⟨v, hv⟩ := Option.isSome_iff_exists.1 h
      simp [hv]
    · rfl
  · rename_i h
    rw [aget_append]
    split
    · rename_i hc; subst hc
      have : aget l c = none := by simpa using h
      rw [this]; simp [aget]
    · rename_i hc
      have : aget [(a, b)] c = none := aget_none.2 (by rintro p hp; rw [List.mem_singleton] at hp; subst hp; exact fun e => hc e.symm)
      rw [this]; cases aget l c <;> rfl
theorem aget_adel (l : List (α × β)) (a c : α) : aget (adel l a) c = if c = a then none else aget l c := by
  unfold adel
  induction l with
  | nil => simp [aget]
  | cons p l ih =>
    rw [List.filter_cons]
    by_cases hp : p.1 = a
    · simp only [hp, decide_true, Bool.not_true, Bool.false_eq_true, if_false, ih]
      split
      · rfl
      · rename_i hc
        have : ¬ a = c := fun h => hc h.symm
        simp [aget, List.find?_cons, hp, this]
    · simp only [hp, decide_false, Bool.not_false, if_true]
      by_cases hc : p.1 = c
      · subst hc; simp [aget, List.find?_cons, hp]
      · have e1 : ∀ m : List (α × β), aget (p :: m) c = aget m c := fun m => by simp [aget, List.find?_cons, hc]
        rw [e1, e1, ih]
theorem akeys_aset (l : List (α × β)) (a : α) (b : β) : akeys (aset l a b) = if (aget l a).isSome then akeys l else akeys l ++ [a] := by
  unfold aset
  split
  · unfold akeys
    rw [List.map_map]
    refine List.map_congr_left fun p _ => ?_
    show (if p.1 = a then (a, b) else p).1 = p.1
    split
    · rename_i h; exact h.symm
    · rfl
  · simp [akeys]
theorem aset_length (l : List (α × β)) (a : α) (b : β) : (aset l a b).length = if (aget l a).isSome then l.length else l.length + 1 := by
  unfold aset; split <;> simp
theorem akeys_nodup_aset {l : List (α × β)} (hn : (akeys l).Nodup) (a : α) (b : β) : (akeys (aset l a b)).Nodup := by
  rw [akeys_aset]
  split
  · exact hn
  · rename_i h
    have : aget l a = none := by simpa using h
    refine List.nodup_append.2 ⟨hn, by simp, ?_⟩
    intro x hx y hy
    rw [List.mem_singleton] at hy
    subst hy
    obtain ⟨p, hp, rfl⟩ := List.mem_map.1 hx
    exact aget_none.1 this p hp
theorem akeys_nodup_adel {l : List (α × β)} (hn : (akeys l).Nodup) (a : α) : (akeys (adel l a)).Nodup := (List.filter_sublist.map _).nodup hn
theorem eraseIdx_adel {l : List (α × β)} (hn : (akeys l).Nodup) {j : Nat} {p : α × β} (hj : l[j]? = some p) : l.eraseIdx j = adel l p.1 := by
  induction l generalizing j with
  | nil => simp at hj
  | cons q l ih =>
    simp only [akeys, List.map_cons, List.nodup_cons] at hn
    cases j with
    | zero =>
      simp at hj; subst hj
      have : l.filter (fun p => !decide (p.1 = q.1)) = l := List.filter_eq_self.2 fun p hp => by
        simp; intro e; exact hn.1 (List.mem_map.2 ⟨p, hp, e⟩)
      simp [adel, this]
    | succ j =>
      have hj' : l[j]? = some p := by simpa using hj
      have hne : q.1 ≠ p.1 := fun e => hn.1 (by rw [e]; exact List.mem_map.2 ⟨p, List.mem_of_getElem? hj', rfl⟩)
      have := ih hn.2 hj'
      simp [adel, hne] at this ⊢
      exact this
end

theorem map_eraseIdx' {α β : Type} (f : α → β) : ∀ (l : List α) (i : Nat), (l.eraseIdx i).map f = (l.map f).eraseIdx i
  | [], _ => rfl
  | _ :: _, 0 => rfl
  | a :: l, i + 1 => by simp [map_eraseIdx' f l i]

/-! ### Keys -/
/-- What is asked of a key's type: which values are keys. -/
structure KL (P : Program) (k : TypeId) (K : Value → Prop) : Prop where
  check : ∀ (w : World) (em : Bool) {v : Value}, K v → (Instr.checkKey em 10000 k v).run P w = .ok () w
  find : ∀ (w : World) {x : Value}, K x → ∀ es : List MapEntry, (∀ e ∈ es, K e.key) →
    ((Instr.findKey k x es).run P w = .ok none w ∧ ∀ e ∈ es, e.key ≠ x) ∨ ∃ j e, (Instr.findKey k x es).run P w = .ok (some (j, e.val)) w ∧ es[j]? = some e ∧ e.key = x
  stays : ∀ (w : World) {v : Value}, K v → (Instr.keyThatStays v v).run P w = .ok v w
theorem KL.of_law {P : Program} {k : TypeId} (K : WideMaps.KeyLaw P k) : KL P k (fun v => ∃ l, keyOf P k v = some l) :=
  ⟨fun w em _ ⟨_, h⟩ => K.check w em h, fun w _ ⟨_, h⟩ es he => K.find w h es he, fun w _ ⟨_, h⟩ => K.stays w h⟩
theorem KL.of_now {P : Program} {k : TypeId} {d : TypeDesc} (hd : P.underlying k = some d) : KL P k (MapKept.IsKey d) :=
  ⟨fun w em _ h => MapKept.run_checkKey hd h em 9999, fun w x hx es he => by
    rcases MapKept.findNow_spec hx es 0 he with ⟨h1, h2⟩ | ⟨j, e, h1, h2, h3⟩
    · exact .inl ⟨MapKept.run_findKey hd h1, h2⟩
    · rw [Nat.zero_add] at h1
      exact .inr ⟨j, e, MapKept.run_findKey hd h1, h2, h3⟩, fun w _ h => MapKept.run_keyThatStays h⟩
theorem KL.mono {P : Program} {k : TypeId} {K K' : Value → Prop} (h : KL P k K) (hk : ∀ v, K' v → K v) : KL P k K' :=
  ⟨fun w em _ hv => h.check w em (hk _ hv), fun w _ hx es he => h.find w (hk _ hx) es (fun e hm => hk _ (he e hm)), fun w _ hv => h.stays w (hk _ hv)⟩

/-- How a map's keys and values are written. -/
structure MapW (P : Program) (t kt et : TypeId) {α β : Type} (ka : α → Value) (vb : β → Value) (z : Value) : Prop where
  und : P.underlying t = some (.map kt et)
  key : KL P kt fun v => ∃ a, v = ka a
  inj : ∀ a b, ka a = ka b → a = b
  zero : zeroT P et = some z

/-- A map of one's own. -/
def mapR {α β : Type} (ka : α → Value) (vb : β → Value) (r : Nat) (l : List (α × β)) : Res :=
  ⟨fun g => g = r, fun w => ∃ es clock, w.heap[r]? = some (.map es clock) ∧ Stamped es clock ∧ es.toList.map (fun e => (e.key, e.val)) = l.map fun p => (ka p.1, vb p.2),
    fun _ _ h ⟨es, clock, h1, h2, h3⟩ => ⟨es, clock, (h r rfl).trans h1, h2, h3⟩⟩

section
variable {α β : Type} {ka : α → Value} {vb : β → Value} {z : Value} {P : Program} {t kt et : TypeId} {w0 w : World} {F : Nat → Prop} {L M : List Res} {k kk : Value → World → Prop} {l : List (α × β)} {r : Nat}

theorem mapR_keys (hinj : ∀ a b, ka a = ka b → a = b) {es : Array MapEntry} {clock : Nat} (hs : Stamped es clock) (hl : es.toList.map (fun e => (e.key, e.val)) = l.map fun p => (ka p.1, vb p.2)) : (akeys l).Nodup := by
  have h := hs.2.2
  have e : es.toList.map (·.key) = l.map fun p => ka p.1 := by
    have := congrArg (List.map Prod.fst) hl
    simpa [List.map_map, Function.comp_def] using this
  rw [e] at h
  have h' : (l.map fun p => ka p.1).Nodup := h
  rw [show (l.map fun p => ka p.1) = (akeys l).map ka by simp [akeys, List.map_map, Function.comp_def]] at h'
  exact List.Pairwise.of_map ka (fun a b hne e => hne (congrArg ka e)) h'

theorem mapR_find [DecidableEq α] (W : MapW P t kt et ka vb z) {es : Array MapEntry} {clock : Nat} (hs : Stamped es clock) (hl : es.toList.map (fun e => (e.key, e.val)) = l.map fun p => (ka p.1, vb p.2)) (a : α) (w : World) :
    ((Instr.findKey kt (ka a) es.toList).run P w = .ok none w ∧ aget l a = none ∧ ∀ e ∈ es.toList, e.key ≠ ka a) ∨
      ∃ j e b, (Instr.findKey kt (ka a) es.toList).run P w = .ok (some (j, e.val)) w ∧ es[j]? = some e ∧ e.key = ka a ∧ l[j]? = some (a, b) ∧ e.val = vb b ∧ aget l a = some b := by
  have hk : ∀ e ∈ es.toList, ∃ a, e.key = ka a := by
    intro e he
    have : (e.key, e.val) ∈ es.toList.map (fun e => (e.key, e.val)) := List.mem_map.2 ⟨e, he, rfl⟩
    rw [hl] at this
    obtain ⟨p, _, hp⟩ := List.mem_map.1 this
    exact ⟨p.1, (congrArg Prod.fst hp).symm⟩
  rcases W.key.find w ⟨a, rfl⟩ es.toList hk with ⟨h1, h2⟩ | ⟨j, e, h1, h2, h3⟩
  · refine .inl ⟨h1, aget_none.2 fun p hp e => ?_, h2⟩
    have : (ka p.1, vb p.2) ∈ es.toList.map (fun e => (e.key, e.val)) := by rw [hl]; exact List.mem_map.2 ⟨p, hp, rfl⟩
    obtain ⟨x, hx, hxe⟩ := List.mem_map.1 this
    refine h2 x hx ?_
    rw [show x.key = ka p.1 from congrArg Prod.fst hxe, e]
  · have hg := congrArg (·[j]?) hl
    simp only [List.getElem?_map, h2, Option.map_some] at hg
    cases hj : l[j]? with
    | none => rw [hj] at hg; cases hg
    | some p =>
      rw [hj] at hg
      simp only [Option.map_some, Option.some.injEq, Prod.mk.injEq] at hg
      obtain rfl : p.1 = a := W.inj _ _ (by rw [← hg.1, h3])
      exact .inr ⟨j, e, p.2, h1, by simpa using h2, h3, hj, hg.2, aget_of_mem (mapR_keys W.inj hs hl) (List.mem_of_getElem? hj)⟩

/-- make. -/
theorem Hp.makeMap (H : Hp w0 F w L M) (ka : α → Value) (vb : β → Value)
    (h : ∀ r w', Hp w0 F w' (mapR ka vb r [] :: L) M → k (.map (some r)) w') : makeMapK P t none w k := by
  unfold makeMapK
  refine ⟨_, w.alloc (.map #[] 0), ?_, h w.heap.size _ (H.add (Keeps.alloc _ _) _ ⟨#[], 0, heap_alloc_new w _, MapKept.stamped_empty 0, rfl⟩ ?_)⟩
  · simp [Instr.makeMap]
  · rintro g rfl; exact ⟨Nat.le_refl _, by simp⟩

/-- v, ok := m[k]. -/
theorem Hp.lookupOk [DecidableEq α] (H : Hp w0 F w L M) (n : Nat) (hn : L[n]? = some (mapR ka vb r l)) (W : MapW P t kt et ka vb z) (a : α)
    (h1 : ∀ b, aget l a = some b → kk (.tuple #[vb b, .bool true]) w) (h2 : aget l a = none → kk (.tuple #[z, .bool false]) w) : lookupK P t (.map (some r)) (ka a) true w kk := by
  obtain ⟨es, clock, hb, hs, hl⟩ := H.get n hn
  unfold lookupK
  rcases mapR_find W hs hl a w with ⟨hf, hg, _⟩ | ⟨j, e, b, hf, he, hek, hlj, hv, hg⟩
  · exact ⟨_, w, by simp [Instr.lookup, run_underlying W.und, MapKept.run_getObj_map hb, W.key.check w _ ⟨a, rfl⟩, hf, run_zero W.zero, Result.andThen], h2 hg⟩
  · exact ⟨_, w, by simp [Instr.lookup, run_underlying W.und, MapKept.run_getObj_map hb, W.key.check w _ ⟨a, rfl⟩, hf, hv, Result.andThen], h1 b hg⟩
/-- m[k]. -/
theorem Hp.lookup [DecidableEq α] (H : Hp w0 F w L M) (n : Nat) (hn : L[n]? = some (mapR ka vb r l)) (W : MapW P t kt et ka vb z) (a : α)
    (h : kk (((aget l a).map vb).getD z) w) : lookupK P t (.map (some r)) (ka a) false w kk := by
  obtain ⟨es, clock, hb, hs, hl⟩ := H.get n hn
  unfold lookupK
  rcases mapR_find W hs hl a w with ⟨hf, hg, _⟩ | ⟨j, e, b, hf, he, hek, hlj, hv, hg⟩
  · rw [hg] at h
    exact ⟨_, w, by simp [Instr.lookup, run_underlying W.und, MapKept.run_getObj_map hb, W.key.check w _ ⟨a, rfl⟩, hf, run_zero W.zero, Result.andThen], h⟩
  · rw [hg] at h
    exact ⟨_, w, by simp [Instr.lookup, run_underlying W.und, MapKept.run_getObj_map hb, W.key.check w _ ⟨a, rfl⟩, hf, hv, Result.andThen], h⟩

theorem mapR_turn (H : Hp w0 F w L M) (n : Nat) {l' : List (α × β)} (hn : L[n]? = some (mapR ka vb r l)) {es : Array MapEntry} {clock : Nat} {es' : Array MapEntry} {clock' : Nat}
    (hb : w.heap[r]? = some (.map es clock)) (hs : Stamped es' clock') (hl : es'.toList.map (fun e => (e.key, e.val)) = l'.map fun p => (ka p.1, vb p.2)) :
    Hp w0 F { w with heap := w.heap.setIfInBounds r (.map es' clock') } (L.set n (mapR ka vb r l')) M := by
  have hset := MapKept.heap_set (o' := .map es' clock') hb
  refine H.turn n hn _ ⟨rfl, rfl, rfl, by simp, fun g hg hne => hset.2 g hne⟩ ⟨es', clock', hset.1, hs, hl⟩ ?_
  rintro g rfl
  exact ⟨by simpa using (Array.getElem?_eq_some_iff.1 hb).1, .inl rfl⟩

theorem aset_modify [DecidableEq α] {es : Array MapEntry} {j : Nat} {a : α} {b b' : β} (hn : (akeys l).Nodup) (hl : es.toList.map (fun e => (e.key, e.val)) = l.map fun p => (ka p.1, vb p.2)) (hlj : l[j]? = some (a, b)) :
    (es.modify j fun e => { e with key := ka a, val := vb b' }).toList.map (fun e => (e.key, e.val)) = (aset l a b').map fun p => (ka p.1, vb p.2) := by
  have hg : aget l a = some b := aget_of_mem hn (List.mem_of_getElem? hlj)
  unfold aset
  rw [hg]
  simp only [Option.isSome_some, if_true]
  apply List.ext_getElem?
  intro i
  have hli := congrArg (·[i]?) hl
  simp only [List.getElem?_map, Array.getElem?_toList] at hli
  simp only [List.getElem?_map, Array.getElem?_toList, Array.getElem?_modify]
  by_cases hij : j = i
  · subst hij
    simp only [if_true]
    rw [hlj] at hli ⊢
    cases he : es[j]? with
    | none => rw [he] at hli; cases hli
    | some x => simp
  · simp only [hij, if_false]
    rw [hli]
    cases hi : l[i]? with
    | none => rfl
    | some p =>
      have hne : p.1 ≠ a := by
        intro h
        have hk := hn
        have h1 : (akeys l)[i]? = some a := by simp [akeys, hi, h]
        have h2 : (akeys l)[j]? = some a := by simp [akeys, hlj]
        exact hij ((List.getElem?_inj (List.getElem?_eq_some_iff.1 h2).1 hk).1 (h2.trans h1.symm))
      simp [hne]

/-- m[k] = v. -/
theorem Hp.mapSet [DecidableEq α] (H : Hp w0 F w L M) (n : Nat) (hn : L[n]? = some (mapR ka vb r l)) (W : MapW P t kt et ka vb z) (a : α) (b : β)
    (h : ∀ w', Hp w0 F w' (L.set n (mapR ka vb r (aset l a b))) M → k undef w') : mapSetK P t (.map (some r)) (ka a) (vb b) w k := by
  obtain ⟨es, clock, hb, hs, hl⟩ := H.get n hn
  unfold mapSetK
  rcases mapR_find W hs hl a w with ⟨hf, hg, hno⟩ | ⟨j, e, b0, hf, he, hek, hlj, hv, hg⟩
  · have hs' := MapKept.stamped_push (val := vb b) hs hno
    refine ⟨_, ?_, h _ (mapR_turn H n hn hb hs' ?_)⟩
    · simp [Instr.mapUpdate, run_underlying W.und, MapKept.run_getObj_map hb, W.key.check w _ ⟨a, rfl⟩, hf, MapKept.run_setObj_map _ hb, Result.andThen]
    · simp [aset, hg, hl]
  · have hkey : ∀ e', es[j]? = some e' → ({ e' with key := ka a, val := vb b } : MapEntry).key = e'.key := fun e' he' => by rw [he] at he'; cases he'; exact hek.symm
    have hs' := MapKept.stamped_modify hs j (fun e => { e with key := ka a, val := vb b }) (fun _ _ => rfl) (fun e' _ he' => hkey e' he')
    refine ⟨_, ?_, h _ (mapR_turn H n hn hb hs' (aset_modify (mapR_keys W.inj hs hl) hl hlj))⟩
    have hst := W.key.stays w (v := ka a) ⟨a, rfl⟩
    simp [Instr.mapUpdate, run_underlying W.und, MapKept.run_getObj_map hb, W.key.check w _ ⟨a, rfl⟩, hf, he, hek, hst, MapKept.run_setObj_map _ hb, Result.andThen]

/-- delete. -/
theorem Hp.mapDel [DecidableEq α] (H : Hp w0 F w L M) (n : Nat) (hn : L[n]? = some (mapR ka vb r l)) (W : MapW P t kt et ka vb z) (a : α) {ty : TypeId} {cst : Array Bool}
    (h : ∀ w', Hp w0 F w' (L.set n (mapR ka vb r (adel l a))) M → kk (.tuple #[]) w') : builtinK P .delete #[t, kt] ty cst [.map (some r), ka a] w kk := by
  obtain ⟨es, clock, hb, hs, hl⟩ := H.get n hn
  unfold builtinK
  have hnd := mapR_keys W.inj hs hl
  rcases mapR_find W hs hl a w with ⟨hf, hg, hno⟩ | ⟨j, e, b0, hf, he, hek, hlj, hv, hg⟩
  · refine ⟨_, _, ?_, h _ (mapR_turn H n hn hb hs ?_)⟩
    · show (do pure (.value (← Builtin.delete_ #[t, kt] ty #[.map (some r), ka a])) : Sem Next).run P w = _
      simp [Builtin.delete_, run_underlying W.und, MapKept.run_getObj_map hb, W.key.check w _ ⟨a, rfl⟩, hf, MapKept.run_setObj_map _ hb, Result.andThen]
    · have : adel l a = l := List.filter_eq_self.2 fun p hp => by simpa using aget_none.1 hg p hp
      rw [this, hl]
  · refine ⟨_, _, ?_, h _ (mapR_turn H n hn hb (MapKept.stamped_erase hs j) ?_)⟩
    · show (do pure (.value (← Builtin.delete_ #[t, kt] ty #[.map (some r), ka a])) : Sem Next).run P w = _
      simp [Builtin.delete_, run_underlying W.und, MapKept.run_getObj_map hb, W.key.check w _ ⟨a, rfl⟩, hf, MapKept.run_setObj_map _ hb, Result.andThen]
    · have hj : j < es.size := (Array.getElem?_eq_some_iff.1 he).1
      rw [← eraseIdx_adel hnd hlj]
      simp only [Array.eraseIdxIfInBounds, hj, dif_pos, Array.toList_eraseIdx]
      rw [map_eraseIdx', map_eraseIdx', hl]

/-- len. -/
theorem Hp.lenMap (H : Hp w0 F w L M) (n : Nat) (hn : L[n]? = some (mapR ka vb r l)) (W : MapW P t kt et ka vb z) {ty : TypeId} {cst : Array Bool}
    (h : kk (.int .i64 (l.length : Int)) w) : builtinK P .len #[t] ty cst [.map (some r)] w kk := by
  obtain ⟨es, clock, hb, hs, hl⟩ := H.get n hn
  have hlen : es.size = l.length := by have := congrArg List.length hl; simpa using this
  unfold builtinK
  refine ⟨_, w, ?_, h⟩
  show (do pure (.value (← Builtin.len_ #[t] ty #[.map (some r)])) : Sem Next).run P w = _
  simp [Builtin.len_, run_underlying W.und, MapKept.run_getObj_map hb, goInt, hlen, Result.andThen]
end
end Go.Dk
end

section
/- Arenas: plain lemmas, nothing of Go. -/
namespace Go.Dk

/-- A node: its level, and the ids of its two halves. -/
structure Nd where
  l : Nat
  lo : Nat
  hi : Nat
  deriving DecidableEq
/-- The nodes of an arena: the one in place i has id i + 2; none: free. -/
abbrev Ar := List (Option Nd)
def slot (A : Ar) (i : Nat) : Option Nd := A.getD i none
def lvlA (A : Ar) (id : Int) : Int := if id = 0 ∨ id = 1 then 24 else if 2 ≤ id then (match slot A (id - 2).toNat with | some n => (n.l : Int) | none => -1) else -1
def findA (A : Ar) (n : Nd) : Option Nat := A.findIdx? fun x => x == some n
def liveA (A : Ar) : Nat := A.countP (·.isSome)
def freeA (A : Ar) : Nat := A.findIdx (·.isNone)
def putA (A : Ar) (n : Nd) : Ar := if freeA A = A.length then A ++ [some n] else A.set (freeA A) (some n)
/-- Each node once. -/
def Uniq (A : Ar) : Prop := ∀ i j n, slot A i = some n → slot A j = some n → i = j
def mkA (room : Int) (A : Ar) (l lo hi : Int) : Ar × Int × Int :=
  if l < 0 ∨ lvlA A lo ≤ l ∨ lvlA A hi ≤ l then (A, 0, 1)
  else match findA A ⟨l.toNat, lo.toNat, hi.toNat⟩ with
    | some i => (A, ((i + 2 : Nat) : Int), 0)
    | none => if room ≤ (liveA A : Int) then (A, 0, 5) else (putA A ⟨l.toNat, lo.toNat, hi.toNat⟩, ((freeA A + 2 : Nat) : Int), 0)

theorem slot_lt {A : Ar} {i : Nat} {n : Nd} (h : slot A i = some n) : i < A.length := by
  unfold slot at h
  rw [List.getD_eq_getElem?_getD] at h
  by_cases hi : i < A.length
  · exact hi
  · rw [List.getElem?_eq_none (by omega)] at h; cases h
theorem slot_get {A : Ar} {i : Nat} (h : i < A.length) : A[i]? = some (slot A i) := by
  unfold slot; rw [List.getD_eq_getElem?_getD, List.getElem?_eq_getElem h]; rfl
theorem slot_none {A : Ar} {i : Nat} (h : A.length ≤ i) : slot A i = none := by
  unfold slot; rw [List.getD_eq_getElem?_getD, List.getElem?_eq_none h]; rfl
theorem slot_set {A : Ar} {i : Nat} (hi : i < A.length) (x : Option Nd) (j : Nat) : slot (A.set i x) j = if j = i then x else slot A j := by
  unfold slot
  rw [List.getD_eq_getElem?_getD, List.getD_eq_getElem?_getD, List.getElem?_set]
  by_cases h : i = j
  · subst h; simp [hi]
  · simp [h, Ne.symm h]
theorem slot_snoc (A : Ar) (x : Option Nd) (j : Nat) : slot (A ++ [x]) j = if j = A.length then x else slot A j := by
  unfold slot
  rw [List.getD_eq_getElem?_getD, List.getD_eq_getElem?_getD]
  by_cases h : j < A.length
  · rw [List.getElem?_append_left h, if_neg (by omega)]
  · rw [List.getElem?_append_right (by omega)]
    by_cases h2 : j = A.length
    · subst h2; simp
    · rw [if_neg h2, List.getElem?_eq_none (by simp; omega), List.getElem?_eq_none (by omega)]
theorem freeA_le (A : Ar) : freeA A ≤ A.length := List.findIdx_le_length
theorem slot_free (A : Ar) : slot A (freeA A) = none := by
  by_cases h : freeA A < A.length
  · have := List.findIdx_getElem (w := h)
    have e : A[freeA A]? = some A[freeA A] := List.getElem?_eq_getElem h
    rw [slot_get h] at e
    injection e with e
    rw [e]
    have h' : (A[freeA A]).isNone = true := this
    simpa using h'
  · exact slot_none (by omega)
theorem slot_before {A : Ar} {i : Nat} (h : i < freeA A) : ∃ n, slot A i = some n := by
  have h1 := List.not_of_lt_findIdx h
  have hl : i < A.length := Nat.lt_of_lt_of_le h (freeA_le A)
  have e : A[i]? = some A[i] := List.getElem?_eq_getElem hl
  rw [slot_get hl] at e
  injection e with e
  rw [e]
  cases hx : A[i] with
  | none => simp [hx] at h1
  | some n => exact ⟨n, rfl⟩
theorem slot_put (A : Ar) (n : Nd) (j : Nat) : slot (putA A n) j = if j = freeA A then some n else slot A j := by
  unfold putA
  split
  · rename_i h; rw [slot_snoc, h]
  · rename_i h; exact slot_set (by have := freeA_le A; omega) _ _
theorem putA_length (A : Ar) (n : Nd) : (putA A n).length = if freeA A = A.length then A.length + 1 else A.length := by
  unfold putA; split <;> simp
theorem findA_none {A : Ar} {n : Nd} : findA A n = none ↔ ∀ i, slot A i ≠ some n := by
  unfold findA
  rw [List.findIdx?_eq_none_iff]
  constructor
  · intro h i hi
    have hl := slot_lt hi
    have := h _ (List.mem_of_getElem? (slot_get hl))
    simp [hi] at this
  · intro h x hx
    obtain ⟨i, hi⟩ := List.mem_iff_getElem?.1 hx
    have hl := (List.getElem?_eq_some_iff.1 hi).1
    rw [slot_get hl] at hi
    injection hi with hi
    have := h i
    rw [hi] at this
    simpa using this
theorem findA_slot {A : Ar} {n : Nd} {i : Nat} (h : findA A n = some i) : slot A i = some n := by
  unfold findA at h
  rw [List.findIdx?_eq_some_iff_getElem] at h
  obtain ⟨hl, hp, _⟩ := h
  have e : A[i]? = some A[i] := List.getElem?_eq_getElem hl
  rw [slot_get hl] at e
  injection e with e
  rw [e]; simpa using hp
theorem findA_some {A : Ar} (hu : Uniq A) {n : Nd} {i : Nat} : findA A n = some i ↔ slot A i = some n := by
  constructor
  · exact findA_slot
  · intro h
    cases hf : findA A n with
    | none => exact absurd h (findA_none.1 hf i)
    | some j => rw [hu j i n (findA_slot hf) h]
theorem liveA_put (A : Ar) (n : Nd) : liveA (putA A n) = liveA A + 1 := by
  unfold putA liveA
  split
  · simp
  · rename_i h
    have hl : freeA A < A.length := by have := freeA_le A; omega
    have hs := slot_free A
    rw [List.countP_set hl]
    have e : A[freeA A] = none := by
      have e : A[freeA A]? = some A[freeA A] := List.getElem?_eq_getElem hl
      rw [slot_get hl, hs] at e
      injection e with e; exact e.symm
    simp [e]
theorem liveA_clear {A : Ar} {i : Nat} {n : Nd} (h : slot A i = some n) : liveA (A.set i none) + 1 = liveA A := by
  unfold liveA
  have hl := slot_lt h
  have e : A[i] = some n := by
    have e : A[i]? = some A[i] := List.getElem?_eq_getElem hl
    rw [slot_get hl, h] at e
    injection e with e; exact e.symm
  rw [List.countP_set hl]
  have : 0 < A.countP (·.isSome) := List.countP_pos_iff.2 ⟨A[i], List.getElem_mem hl, by simp [e]⟩
  simp [e]
  omega
theorem uniq_put {A : Ar} (hu : Uniq A) {n : Nd} (hn : findA A n = none) : Uniq (putA A n) := by
  intro i j m hi hj
  rw [slot_put] at hi hj
  split at hi <;> split at hj
  · omega
  · injection hi with hi; subst hi; exact absurd hj (findA_none.1 hn j)
  · injection hj with hj; subst hj; exact absurd hi (findA_none.1 hn i)
  · exact hu i j m hi hj
theorem uniq_clear {A : Ar} (hu : Uniq A) {i : Nat} : Uniq (A.set i none) := by
  intro a b m ha hb
  by_cases hl : i < A.length
  · rw [slot_set hl] at ha hb
    split at ha
    · cases ha
    · split at hb
      · cases hb
      · exact hu a b m ha hb
  · rw [List.set_eq_of_length_le (by omega)] at ha hb; exact hu a b m ha hb

/-- The ids that an arena remembers. -/
structure IdsOk (l : List (Nd × Nat)) (A : Ar) : Prop where
  get : ∀ n, aget l n = (findA A n).map (· + 2)
  len : l.length = liveA A
theorem ids_put {l : List (Nd × Nat)} {A : Ar} (h : IdsOk l A) (hu : Uniq A) {n : Nd} (hn : findA A n = none) : IdsOk (aset l n (freeA A + 2)) (putA A n) := by
  have hu' := uniq_put hu hn
  refine ⟨fun c => ?_, ?_⟩
  · rw [aget_aset, h.get]
    split
    · rename_i hc; subst hc
      have : findA (putA A c) c = some (freeA A) := (findA_some hu').2 (by rw [slot_put]; simp)
      rw [this]; rfl
    · rename_i hc
      congr 1
      cases hf : findA A c with
      | none =>
        refine (findA_none.2 fun i hi => ?_).symm
        rw [slot_put] at hi
        split at hi
        · injection hi with hi; exact hc hi.symm
        · exact findA_none.1 hf i hi
      | some i =>
        have hi := findA_slot hf
        refine ((findA_some hu').2 ?_).symm
        rw [slot_put, if_neg, hi]
        intro e; subst e; rw [slot_free] at hi; cases hi
  · rw [aset_length, h.get, hn]
    simp [h.len, liveA_put]
theorem adel_length {α β : Type} [DecidableEq α] {l : List (α × β)} (hn : (akeys l).Nodup) {a : α} {b : β} (h : aget l a = some b) : (adel l a).length + 1 = l.length := by
  obtain ⟨j, hj⟩ := List.mem_iff_getElem?.1 (aget_mem h)
  have := eraseIdx_adel hn hj
  have hl := (List.getElem?_eq_some_iff.1 hj).1
  rw [← this, List.length_eraseIdx_of_lt hl]
  omega
theorem ids_clear {l : List (Nd × Nat)} {A : Ar} (h : IdsOk l A) (hn : (akeys l).Nodup) (hu : Uniq A) {i : Nat} {n : Nd} (hi : slot A i = some n) : IdsOk (adel l n) (A.set i none) := by
  have hl := slot_lt hi
  have hu' : Uniq (A.set i none) := uniq_clear hu
  refine ⟨fun c => ?_, ?_⟩
  · rw [aget_adel, h.get]
    split
    · rename_i hc; subst hc
      have : findA (A.set i none) c = none := findA_none.2 fun j hj => by
        rw [slot_set hl] at hj
        split at hj
        · cases hj
        · rename_i hne; exact hne (hu j i c hj hi)
      rw [this]; rfl
    · rename_i hc
      congr 1
      cases hf : findA A c with
      | none =>
        refine (findA_none.2 fun j hj => ?_).symm
        rw [slot_set hl] at hj
        split at hj
        · cases hj
        · exact findA_none.1 hf j hj
      | some j =>
        have hj := findA_slot hf
        refine ((findA_some hu').2 ?_).symm
        rw [slot_set hl, if_neg, hj]
        intro e; subst e; rw [hi] at hj; injection hj with hj; exact hc hj.symm
  · have hg : aget l n = some (i + 2) := by rw [h.get, (findA_some hu).2 hi]; rfl
    have h1 := adel_length hn hg
    have h2 := liveA_clear hi
    have h3 := h.len
    omega
/-! ### What is come to -/
inductive Rch (A : Ar) : Int → Nat → Prop where
  | self {i : Nat} {n : Nd} : slot A i = some n → Rch A ((i : Int) + 2) i
  | lo {i x : Nat} {n : Nd} : slot A i = some n → Rch A (n.lo : Int) x → Rch A ((i : Int) + 2) x
  | hi {i x : Nat} {n : Nd} : slot A i = some n → Rch A (n.hi : Int) x → Rch A ((i : Int) + 2) x
theorem Rch.slot {A : Ar} {id : Int} {x : Nat} (h : Rch A id x) : ∃ n, slot A x = some n := by
  induction h with
  | self h => exact ⟨_, h⟩
  | lo _ _ ih => exact ih
  | hi _ _ ih => exact ih
theorem Rch.start {A : Ar} {id : Int} {x : Nat} (h : Rch A id x) : ∃ (i : Nat) (n : Nd), id = (i : Int) + 2 ∧ Dk.slot A i = some n := by
  cases h with
  | self h => exact ⟨_, _, rfl, h⟩
  | lo h _ => exact ⟨_, _, rfl, h⟩
  | hi h _ => exact ⟨_, _, rfl, h⟩
theorem Rch.trans {A : Ar} {id : Int} {x y : Nat} (h : Rch A id x) (k : Rch A ((x : Int) + 2) y) : Rch A id y := by
  induction h with
  | self _ => exact k
  | lo h _ ih => exact .lo h (ih k)
  | hi h _ ih => exact .hi h (ih k)
theorem rch_iff {A : Ar} {i x : Nat} {n : Nd} (h : slot A i = some n) : Rch A ((i : Int) + 2) x ↔ x = i ∨ Rch A (n.lo : Int) x ∨ Rch A (n.hi : Int) x := by
  constructor
  · intro hr
    generalize hid : ((i : Int) + 2) = id at hr
    cases hr with
    | self h' => left; omega
    | lo h' hr =>
      rename_i j n'
      obtain rfl : i = j := by omega
      rw [h] at h'; injection h' with h'; subst h'; exact .inr (.inl hr)
    | hi h' hr =>
      rename_i j n'
      obtain rfl : i = j := by omega
      rw [h] at h'; injection h' with h'; subst h'; exact .inr (.inr hr)
  · rintro (rfl | h' | h')
    · exact .self h
    · exact .lo h h'
    · exact .hi h h'

/-- What an arena keeps to: each node once, and levels rise. -/
structure ArInv (A : Ar) : Prop where
  uniq : Uniq A
  lev : ∀ i n, slot A i = some n → (n.l : Int) < lvlA A n.lo ∧ (n.l : Int) < lvlA A n.hi
  top : ∀ i n, slot A i = some n → n.l < 24
theorem lvlA_le {A : Ar} (h : ArInv A) (id : Int) : lvlA A id ≤ 24 := by
  unfold lvlA
  split
  · omega
  · split
    · split
      · rename_i n hn; have := h.top _ n hn; omega
      · omega
    · omega
theorem lvlA_slot {A : Ar} {i : Nat} {n : Nd} (h : slot A i = some n) : lvlA A ((i : Int) + 2) = n.l := by
  unfold lvlA
  rw [if_neg (by omega), if_pos (by omega), show ((i : Int) + 2 - 2).toNat = i by omega, h]
theorem lvlA_node {A : Ar} {id : Int} (h : 0 ≤ lvlA A id) : id = 0 ∨ id = 1 ∨ ∃ (i : Nat) (n : Nd), id = (i : Int) + 2 ∧ slot A i = some n ∧ lvlA A id = n.l := by
  by_cases h0 : id = 0 ∨ id = 1
  · rcases h0 with h0 | h0
    · exact .inl h0
    · exact .inr (.inl h0)
  · right; right
    have h' := h
    unfold lvlA at h'
    rw [if_neg h0] at h'
    by_cases h2 : 2 ≤ id
    · rw [if_pos h2] at h'
      obtain ⟨i, rfl⟩ : ∃ i : Nat, id = (i : Int) + 2 := ⟨(id - 2).toNat, by omega⟩
      rw [show ((i : Int) + 2 - 2).toNat = i by omega] at h'
      cases hs : slot A i with
      | none => rw [hs] at h'; simp at h'
      | some n => exact ⟨i, n, rfl, hs, lvlA_slot hs⟩
    · rw [if_neg h2] at h'; omega
theorem lvlA_put {A : Ar} (n : Nd) {id : Int} (h : id ≠ (freeA A : Int) + 2) : lvlA (putA A n) id = lvlA A id := by
  unfold lvlA
  split
  · rfl
  · split
    · rename_i h2
      rw [slot_put, if_neg (by omega)]
    · rfl
theorem lvlA_free (A : Ar) : lvlA A ((freeA A : Int) + 2) = -1 := by
  unfold lvlA
  rw [if_neg (by omega), if_pos (by omega), show ((freeA A : Int) + 2 - 2).toNat = freeA A by omega, slot_free]
theorem inv_put {A : Ar} (h : ArInv A) {n : Nd} (hn : findA A n = none) (h1 : (n.l : Int) < lvlA A n.lo) (h2 : (n.l : Int) < lvlA A n.hi) : ArInv (putA A n) := by
  have hne : ∀ id : Int, 0 ≤ lvlA A id → id ≠ (freeA A : Int) + 2 := by
    rintro id hid rfl
    rw [lvlA_free] at hid; omega
  refine ⟨uniq_put h.uniq hn, fun i m hi => ?_, fun i m hi => ?_⟩
  · rw [slot_put] at hi
    split at hi
    · injection hi with hi; subst hi
      rw [lvlA_put _ (hne _ (by omega)), lvlA_put _ (hne _ (by omega))]; exact ⟨h1, h2⟩
    · have := h.lev i m hi
      rw [lvlA_put _ (hne _ (by omega)), lvlA_put _ (hne _ (by omega))]; exact this
  · rw [slot_put] at hi
    split at hi
    · injection hi with hi; subst hi
      have := lvlA_le h n.lo; omega
    · exact h.top i m hi

def markA (A : Ar) : Nat → Int → List Bool → List Bool
  | 0, _, m => m
  | f + 1, id, m =>
    match (if 2 ≤ id then slot A (id - 2).toNat else none) with
    | none => m
    | some n => if m.getD (id - 2).toNat false then m else markA A f n.hi (markA A f n.lo (m.set (id - 2).toNat true))
theorem markA_length (A : Ar) : ∀ (f : Nat) (id : Int) (m : List Bool), (markA A f id m).length = m.length
  | 0, _, _ => rfl
  | f + 1, id, m => by
    unfold markA
    split
    · rfl
    · split
      · rfl
      · rw [markA_length A f, markA_length A f, List.length_set]
def mb (m : List Bool) (i : Nat) : Bool := m.getD i false
/-- Of marked nodes from a level on all that is come to is marked. -/
def Clo (A : Ar) (m : List Bool) (L : Int) : Prop := ∀ i n, mb m i = true → slot A i = some n → L ≤ n.l → ∀ x, Rch A ((i : Int) + 2) x → mb m x = true
theorem mb_set {m : List Bool} {i : Nat} (hi : i < m.length) (j : Nat) : mb (m.set i true) j = if j = i then true else mb m j := by
  unfold mb
  rw [List.getD_eq_getElem?_getD, List.getD_eq_getElem?_getD, List.getElem?_set]
  by_cases h : i = j
  · subst h; simp [hi]
  · simp [h, Ne.symm h]
theorem mark_spec {A : Ar} (h : ArInv A) : ∀ (f : Nat) (id : Int) (m : List Bool), 24 - lvlA A id < f → m.length = A.length → Clo A m (lvlA A id) →
    ∀ x, mb (markA A f id m) x = true ↔ mb m x = true ∨ Rch A id x
  | 0, id, m, hf, _, _, x => by have := lvlA_le h id; omega
  | f + 1, id, m, hf, hm, hc, x => by
    unfold markA
    split
    · rename_i hs
      constructor
      · exact .inl
      · rintro (h' | h')
        · exact h'
        · obtain ⟨i, n, rfl, hi⟩ := h'.start
          rw [if_pos (by omega), show ((i : Int) + 2 - 2).toNat = i by omega, hi] at hs; cases hs
    · rename_i n hs
      have h2 : 2 ≤ id := by
        by_cases h2 : 2 ≤ id
        · exact h2
        · rw [if_neg h2] at hs; cases hs
      obtain ⟨i, rfl⟩ : ∃ i : Nat, id = (i : Int) + 2 := ⟨(id - 2).toNat, by omega⟩
      rw [if_pos h2] at hs
      simp only [show ((i : Int) + 2 - 2).toNat = i by omega] at hs ⊢
      have hl := lvlA_slot hs
      have hlev := h.lev i n hs
      rw [hl] at hc hf
      split
      · rename_i hmi
        constructor
        · exact .inl
        · rintro (h' | h')
          · exact h'
          · exact hc i n hmi hs (Int.le_refl _) x h'
      · rename_i hmi
        have hi : i < m.length := by rw [hm]; exact slot_lt hs
        have hlen1 : (m.set i true).length = A.length := by rw [List.length_set]; exact hm
        have hc1 : Clo A (m.set i true) (n.l + 1) := by
          intro j n' hj hn' hL y hy
          rw [mb_set hi] at hj ⊢
          split
          · rfl
          · split at hj
            · rename_i hji; subst hji; rw [hs] at hn'; injection hn' with hn'; subst hn'; omega
            · exact hc j n' hj hn' (by omega) y hy
        have e1 := mark_spec h f n.lo (m.set i true) (by omega) hlen1 (fun j n' hj hn' hL => hc1 j n' hj hn' (by omega))
        have hlen2 : (markA A f n.lo (m.set i true)).length = A.length := by rw [markA_length]; exact hlen1
        have hc2 : Clo A (markA A f n.lo (m.set i true)) (n.l + 1) := by
          intro j n' hj hn' hL y hy
          rw [e1] at hj ⊢
          rcases hj with hj | hj
          · exact .inl (hc1 j n' hj hn' hL y hy)
          · exact .inr (hj.trans hy)
        have e2 := mark_spec h f n.hi (markA A f n.lo (m.set i true)) (by omega) hlen2 (fun j n' hj hn' hL => hc2 j n' hj hn' (by omega))
        rw [e2, e1, mb_set hi, rch_iff hs]
        by_cases hx : x = i
        · subst hx; simp
        · simp [hx, or_assoc]
theorem clo_mark {A : Ar} (h : ArInv A) {f : Nat} {id : Int} {m : List Bool} (hf : 24 - lvlA A id < f) (hm : m.length = A.length) (hc : Clo A m 0) : Clo A (markA A f id m) 0 := by
  intro i n hi hn hL x hx
  have hs := mark_spec h f id m hf hm
  by_cases hl : 0 ≤ lvlA A id
  · have e := hs (fun j n' hj hn' hL' => hc j n' hj hn' (by omega))
    rw [e] at hi ⊢
    rcases hi with hi | hi
    · exact .inl (hc i n hi hn hL x hx)
    · exact .inr (hi.trans hx)
  · have e := hs (fun j n' hj hn' hL' => hc j n' hj hn' (by omega))
    rw [e] at hi ⊢
    rcases hi with hi | hi
    · exact .inl (hc i n hi hn hL x hx)
    · exact .inr (hi.trans hx)
/-- The marks behind several ids. -/
def marksA (A : Ar) (ids : List Int) : List Bool := ids.foldl (fun m id => markA A 26 id m) (List.replicate A.length false)
theorem marks_fold {A : Ar} (h : ArInv A) : ∀ (ids : List Int) (m : List Bool), m.length = A.length → Clo A m 0 →
    (ids.foldl (fun m id => markA A 26 id m) m).length = A.length ∧ ∀ x, mb (ids.foldl (fun m id => markA A 26 id m) m) x = true ↔ mb m x = true ∨ ∃ id ∈ ids, Rch A id x
  | [], m, hm, _ => ⟨hm, fun x => by simp⟩
  | id :: ids, m, hm, hc => by
    have hf : 24 - lvlA A id < (26 : Nat) := by
      have : -1 ≤ lvlA A id := by unfold lvlA; split; · omega
                                  · split
                                    · split <;> omega
                                    · omega
      omega
    have hc0 : Clo A m (lvlA A id) := by
      intro i n hi hn hL; exact hc i n hi hn (by omega)
    have e := mark_spec h 26 id m hf hm hc0
    obtain ⟨h1, h2⟩ := marks_fold h ids (markA A 26 id m) (by rw [markA_length]; exact hm) (clo_mark h hf hm hc)
    refine ⟨h1, fun x => ?_⟩
    rw [List.foldl_cons, h2, e]
    simp [or_assoc]
theorem mb_replicate (n i : Nat) : mb (List.replicate n false) i = false := by
  unfold mb
  rw [List.getD_eq_getElem?_getD, List.getElem?_replicate]
  split <;> rfl
theorem marks_spec {A : Ar} (h : ArInv A) (ids : List Int) : (marksA A ids).length = A.length ∧ ∀ x, mb (marksA A ids) x = true ↔ ∃ id ∈ ids, Rch A id x := by
  have := marks_fold h ids (List.replicate A.length false) (by simp) (fun i n hi => by rw [mb_replicate] at hi; cases hi)
  refine ⟨this.1, fun x => ?_⟩
  rw [marksA, this.2, mb_replicate]; simp

/-! ### A sweep -/
def sweepTo (A : Ar) (m : List Bool) : Nat → Ar
  | 0 => A
  | k + 1 => if mb m k then sweepTo A m k else (sweepTo A m k).set k none
def sweepA (A : Ar) (ids : List Int) : Ar := sweepTo A (marksA A ids) A.length
theorem sweepTo_length (A : Ar) (m : List Bool) (k : Nat) : (sweepTo A m k).length = A.length := by
  induction k with
  | zero => rfl
  | succ k ih => unfold sweepTo; split <;> simp [ih]
theorem slot_sweepTo (A : Ar) (m : List Bool) (k j : Nat) : slot (sweepTo A m k) j = if j < k ∧ mb m j = false then none else slot A j := by
  induction k with
  | zero => simp [sweepTo]
  | succ k ih =>
    unfold sweepTo
    split
    · rename_i hk
      rw [ih]
      by_cases hj : j = k
      · subst hj; simp [hk]
      · have : j < k ↔ j < k + 1 := by omega
        simp [this]
    · rename_i hk
      by_cases hl : k < (sweepTo A m k).length
      · rw [slot_set hl, ih]
        by_cases hj : j = k
        · subst hj; simp at hk; simp [hk]
        · have : j < k ↔ j < k + 1 := by omega
          simp [this, hj]
      · rw [List.set_eq_of_length_le (by omega), ih]
        by_cases hj : j = k
        · subst hj
          rw [sweepTo_length] at hl
          simp [slot_none (show A.length ≤ j by omega)]
        · have : j < k ↔ j < k + 1 := by omega
          simp [this]
theorem slot_sweep {A : Ar} (h : ArInv A) (ids : List Int) (j : Nat) (n : Nd) : slot (sweepA A ids) j = some n ↔ slot A j = some n ∧ ∃ id ∈ ids, Rch A id j := by
  unfold sweepA
  rw [slot_sweepTo, ← (marks_spec h ids).2]
  split
  · rename_i hj; simp [hj.2]
  · rename_i hj
    constructor
    · intro hs
      have := slot_lt hs
      refine ⟨hs, ?_⟩
      cases hm : mb (marksA A ids) j
      · exact absurd ⟨this, hm⟩ hj
      · rfl
    · exact fun hs => hs.1
theorem inv_sweep {A : Ar} (h : ArInv A) (ids : List Int) : ArInv (sweepA A ids) := by
  have key : ∀ id : Int, 0 ≤ lvlA A id → (∀ i : Nat, id = (i : Int) + 2 → ∃ k ∈ ids, Rch A k i) → lvlA (sweepA A ids) id = lvlA A id := by
    intro id hid hk
    rcases lvlA_node hid with rfl | rfl | ⟨i, n, rfl, hi, hl⟩
    · rfl
    · rfl
    · rw [hl]; exact lvlA_slot ((slot_sweep h ids i n).2 ⟨hi, hk i rfl⟩)
  refine ⟨fun i j n hi hj => h.uniq i j n ((slot_sweep h ids i n).1 hi).1 ((slot_sweep h ids j n).1 hj).1, fun i n hi => ?_, fun i n hi => h.top i n ((slot_sweep h ids i n).1 hi).1⟩
  obtain ⟨hs, k, hk, hr⟩ := (slot_sweep h ids i n).1 hi
  have hl := h.lev i n hs
  have hto : ∀ c : Nat, 0 ≤ lvlA A c → (c = n.lo ∨ c = n.hi) → ∀ j : Nat, (c : Int) = (j : Int) + 2 → ∃ k ∈ ids, Rch A k j := by
    intro c hc hcc j hj
    refine ⟨k, hk, hr.trans ?_⟩
    rcases lvlA_node hc with h0 | h0 | ⟨j', n', hj', hsl, _⟩
    · omega
    · omega
    · obtain rfl : j = j' := by omega
      have hself : Rch A (c : Int) j := by rw [hj]; exact .self hsl
      rcases hcc with rfl | rfl
      · exact .lo hs hself
      · exact .hi hs hself
  rw [key n.lo (by omega) (hto n.lo (by omega) (.inl rfl)), key n.hi (by omega) (hto n.hi (by omega) (.inr rfl))]
  exact hl
end Go.Dk
end

section
/- More rules: drawn regions, elements of more than one cell, parts that are taken together. -/
namespace Go.Dk

/-! ### Elements of more than one cell -/
section
variable {α : Type}
def flat (enc : α → List Value) (l : List α) : List Value := l.flatMap enc
theorem flat_length {enc : α → List Value} {sz : Nat} (he : ∀ a, (enc a).length = sz) (l : List α) : (flat enc l).length = l.length * sz := by
  induction l with
  | nil => simp [flat]
  | cons a l ih =>
    have : flat enc (a :: l) = enc a ++ flat enc l := rfl
    rw [this, List.length_append, ih, he, List.length_cons, Nat.succ_mul, Nat.add_comm]
theorem flat_split {enc : α → List Value} {l : List α} {i : Nat} {a : α} (h : l[i]? = some a) : flat enc l = flat enc (l.take i) ++ enc a ++ flat enc (l.drop (i + 1)) := by
  have hi := (List.getElem?_eq_some_iff.1 h).1
  have e : l = l.take i ++ a :: l.drop (i + 1) := by
    have h2 := (List.getElem?_eq_some_iff.1 h).2
    rw [← h2, ← List.drop_eq_getElem_cons hi, List.take_append_drop]
  conv => lhs; rw [e]
  simp [flat]
theorem flat_cell {enc : α → List Value} {sz : Nat} (he : ∀ a, (enc a).length = sz) {l : List α} {i : Nat} {a : α} (h : l[i]? = some a) (j : Nat) (hj : j < sz) : (flat enc l)[i * sz + j]? = (enc a)[j]? := by
  have hi := (List.getElem?_eq_some_iff.1 h).1
  rw [flat_split h, List.append_assoc, List.getElem?_append_right, flat_length he, List.length_take, Nat.min_eq_left (by omega), Nat.add_sub_cancel_left, List.getElem?_append_left (by rw [he]; exact hj)]
  rw [flat_length he, List.length_take, Nat.min_eq_left (by omega)]; omega
theorem flat_set {enc : α → List Value} {sz : Nat} (he : ∀ a, (enc a).length = sz) {l : List α} {i : Nat} (hi : i < l.length) (a : α) :
    flat enc (l.set i a) = (flat enc l).take (i * sz) ++ enc a ++ (flat enc l).drop (i * sz + sz) := by
  have hl : (flat enc (l.take i)).length = i * sz := by rw [flat_length he, List.length_take, Nat.min_eq_left (by omega)]
  have hg : l[i]? = some l[i] := List.getElem?_eq_getElem hi
  have hs : (l.set i a)[i]? = some a := by simp [hi]
  have e1 : (l.set i a).take i = l.take i := by rw [List.take_set_of_le (Nat.le_refl _)]
  have e2 : (l.set i a).drop (i + 1) = l.drop (i + 1) := by rw [List.drop_set_of_lt (by omega)]
  have h1 : (flat enc l).take (i * sz) = flat enc (l.take i) := by
    rw [flat_split hg, List.append_assoc, List.take_append_of_le_length (by rw [hl]; exact Nat.le_refl _), List.take_of_length_le (by rw [hl]; exact Nat.le_refl _)]
  have h2 : (flat enc l).drop (i * sz + sz) = flat enc (l.drop (i + 1)) := by
    rw [flat_split hg, List.drop_left' (by rw [List.length_append, hl, he])]
  rw [flat_split hs, e1, e2, h1, h2]
theorem flat_snoc (enc : α → List Value) (l : List α) (a : α) : flat enc (l ++ [a]) = flat enc l ++ enc a := by simp [flat]
end

section
variable {P : Program} {w0 w w' : World} {F : Nat → Prop} {L M : List Res} {k kk : Value → World → Prop}

/-- A drawn region in the text's order. -/
theorem Hp.draw {N : Nat} {ops : Array Oper} {K : Fr → World → Prop} {f : Fr} (H : Hp w0 F w L M) (hf : P.follows .mixedOrders = true) (hB : (Region.noSelect ops && mixB ops) = true)
    (h : ∀ w', Hp w0 F w' L M → mixK P N (fun u => Hp w0 F u L M) ops K 0 ops.toList f w') : drawK P N ops K f w :=
  draw_mix (fun u => Hp w0 F u L M) hf hB (H.same (Keeps.drew _)) (h _ (H.same (Keeps.drew _)))

/-- Several cells read. -/
theorem load_cells {a : Addr} {ty : TypeId} (cs : List Value) (hagg : aggT P ty = some true) (hs : sizeT P ty = some cs.length) (hc : ∀ j v, cs[j]? = some v → w.cell? (a.add j) = some v)
    (h : k (.agg cs.toArray) w) : loadK P ty (.pointer (some a)) w k := by
  unfold loadK
  refine ⟨_, w, ?_, h⟩
  simp [Instr.loadAt, Instr.sureAddr, loadVar, run_isAgg hagg, run_sizeOf hs, run_loadCells_list w a cs hc]
theorem Hp.loadOwnAgg {α : Type} (H : Hp w0 F w L M) (n : Nat) {enc : α → List Value} {e ty : TypeId} {sz g o l c : Nat} {xs : List α} (hn : L[n]? = some (own e sz (.slice (some ⟨g, 0, none⟩) l c) l (flat enc xs)))
    (he : ∀ a, (enc a).length = sz) (hagg : aggT P ty = some true) (hs : sizeT P ty = some sz) (i : Nat) {a : α} (ho : o = i * sz) (hx : xs[i]? = some a)
    (h : k (.agg (enc a).toArray) w) : loadK P ty (.pointer (some ⟨g, o, none⟩)) w k := by
  subst ho
  have hok := H.get n hn
  have hlen : (flat enc xs).length = l * sz := hok.1
  rw [flat_length he] at hlen
  have hi := (List.getElem?_eq_some_iff.1 hx).1
  refine load_cells (enc a) hagg (by rw [he]; exact hs) (fun j v hj => ?_) h
  have hjs : j < sz := by have := (List.getElem?_eq_some_iff.1 hj).1; rwa [he] at this
  have hadd : (⟨g, i * sz, none⟩ : Addr).add j = ⟨g, i * sz + j, none⟩ := by unfold Addr.add; split <;> simp_all
  have h1 : (i + 1) * sz ≤ xs.length * sz := Nat.mul_le_mul_right _ (by omega)
  rw [Nat.succ_mul] at h1
  rw [hadd, own_cell hok (i * sz + j) (by omega), flat_cell he hx j hjs, hj]
theorem Hp.loadOwnFld {α : Type} (H : Hp w0 F w L M) (n : Nat) {enc : α → List Value} {e ty : TypeId} {sz g o l c : Nat} {xs : List α} (hn : L[n]? = some (own e sz (.slice (some ⟨g, 0, none⟩) l c) l (flat enc xs)))
    (he : ∀ a, (enc a).length = sz) (hagg : aggT P ty = some false) (i j : Nat) {a : α} {u : Value} (ho : o = i * sz + j) (hx : xs[i]? = some a) (hj : (enc a)[j]? = some u)
    (h : k u w) : loadK P ty (.pointer (some ⟨g, o, none⟩)) w k := by
  subst ho
  have hjs : j < sz := by have := (List.getElem?_eq_some_iff.1 hj).1; rwa [he] at this
  exact H.loadOwn n hn hagg ((flat_cell he hx j hjs).trans hj) h
theorem Sl.loadAgg {α : Type} (H : Hp w0 (fun _ => False) w L M) {enc : α → List Value} {ty : TypeId} {sz g o o' l c : Nat} {xs : List α} (hS : Sl w0 (.slice (some ⟨g, o, none⟩) l c) sz l (flat enc xs))
    (he : ∀ a, (enc a).length = sz) (hagg : aggT P ty = some true) (hs : sizeT P ty = some sz) (i : Nat) {a : α} (ho : o' = o + i * sz) (hx : xs[i]? = some a)
    (h : k (.agg (enc a).toArray) w) : loadK P ty (.pointer (some ⟨g, o', none⟩)) w k := by
  subst ho
  have hS' := hS.same H.keeps
  have hlen : (flat enc xs).length = l * sz := hS.1
  rw [flat_length he] at hlen
  have hi := (List.getElem?_eq_some_iff.1 hx).1
  refine load_cells (enc a) hagg (by rw [he]; exact hs) (fun j v hj => ?_) h
  have hjs : j < sz := by have := (List.getElem?_eq_some_iff.1 hj).1; rwa [he] at this
  have hadd : (⟨g, o + i * sz, none⟩ : Addr).add j = ⟨g, o + (i * sz + j), none⟩ := by unfold Addr.add; split <;> simp_all [Nat.add_assoc]
  have h1 : (i + 1) * sz ≤ xs.length * sz := Nat.mul_le_mul_right _ (by omega)
  rw [Nat.succ_mul] at h1
  rw [hadd, hS'.cell (i * sz + j) (by omega), flat_cell he hx j hjs, hj]

theorem storeCells_off (g o : Nat) : ∀ (vs : List Value) (i : Nat), storeCells ⟨g, o, none⟩ vs i = storeCells ⟨g, 0, none⟩ vs (o + i)
  | [], _ => rfl
  | v :: vs, i => by
    have e1 : (⟨g, o, none⟩ : Addr).add i = ⟨g, o + i, none⟩ := by unfold Addr.add; split <;> simp_all
    have e2 : (⟨g, 0, none⟩ : Addr).add (o + i) = ⟨g, o + i, none⟩ := by unfold Addr.add; split <;> simp_all
    rw [storeCells, storeCells, e1, e2, storeCells_off g o vs (i + 1), Nat.add_assoc]
/-- An element of several cells written. -/
theorem Hp.storeOwnAgg {α : Type} (H : Hp w0 F w L M) (n : Nat) {enc : α → List Value} {e ty : TypeId} {sz g o l c : Nat} {xs : List α} {cs : Array Value} (a : α) (hn : L[n]? = some (own e sz (.slice (some ⟨g, 0, none⟩) l c) l (flat enc xs)))
    (he : ∀ a, (enc a).length = sz) (hs : sizeT P ty = some sz) (i : Nat) (ho : o = i * sz) (hi : i < xs.length) (hcs : cs = (enc a).toArray) (h1 : ∀ v ∈ enc a, v.oneCell' = true)
    (h : ∀ w', Hp w0 F w' (L.set n (own e sz (.slice (some ⟨g, 0, none⟩) l c) l (flat enc (xs.set i a)))) M → k undef w') : storeK P ty (.pointer (some ⟨g, o, none⟩)) (.agg cs) w k := by
  subst ho; subst hcs
  have hok := H.get n hn
  have hlen : (flat enc xs).length = l * sz := hok.1
  have hlen' := hlen
  rw [flat_length he] at hlen'
  have h2 : (i + 1) * sz ≤ xs.length * sz := Nat.mul_le_mul_right _ (by omega)
  rw [Nat.succ_mul] at h2
  rcases hok.2 with ⟨hv, _⟩ | ⟨g', cap, cur, hv, hb, hg, hc, hm, hcur, htake⟩
  · cases hv
  · injection hv with hv1 _ hv2
    injection hv1 with hv1
    injection hv1 with hv1 _ _
    subst hv1; subst hv2
    have hcl : cur.toList.length = c * sz := by simpa using hcur
    have hls : l * sz ≤ c * sz := Nat.mul_le_mul_right _ hc
    obtain ⟨w', hr, hk, hb'⟩ := storeCells_run (P := P) (enc a) w cur (i * sz) hg (by rw [he]; omega) h1
    rw [he] at hb'
    unfold storeK
    have hown : (own e sz (.slice (some ⟨g, 0, none⟩) l c) l (flat enc (xs.set i a))).ok w' := by
      refine ⟨by rw [flat_length he, List.length_set]; exact hlen', .inr ⟨g, c, _, rfl, hb, hb', hc, hm, ?_, ?_⟩⟩
      · simp only [List.size_toArray, List.length_append, List.length_take, List.length_drop, he]
        omega
      · rw [flat_set he hi, ← htake]
        simp only [List.append_assoc]
        rw [List.take_append, List.take_append, List.length_take, he, List.take_take, List.take_take, List.drop_take]
        have e1 : min (l * sz) (i * sz) = i * sz := by omega
        have e2 : min (i * sz) cur.toList.length = i * sz := by omega
        have e3 : min (i * sz) (l * sz) = i * sz := by omega
        rw [e1, e2, e3, List.take_of_length_le (l := enc a) (by rw [he]; omega)]
        congr 3
        omega
    refine ⟨w', ?_, h _ (H.turn n hn _ (hk.mono fun x hx => by subst hx; rfl) hown ?_)⟩
    · have : storeCells ⟨g, i * sz, none⟩ (enc a) 0 = storeCells ⟨g, 0, none⟩ (enc a) (i * sz) := storeCells_off g (i * sz) (enc a) 0
      simp [Instr.storeAt, Instr.sureAddr, storeVar, Value.cells, run_sizeOf hs, he, this, hr]
    · intro x hx
      refine ⟨Nat.lt_of_lt_of_le (World.ownsRow.lt (w := w) (base := 0) hok x ?_).2 hk.size, .inl hx⟩
      exact hx
theorem Hp.storeOwnFld {α : Type} (H : Hp w0 F w L M) (n : Nat) {enc : α → List Value} {e ty : TypeId} {sz g o l c : Nat} {xs : List α} {u : Value} (a' : α) (hn : L[n]? = some (own e sz (.slice (some ⟨g, 0, none⟩) l c) l (flat enc xs)))
    (he : ∀ a, (enc a).length = sz) (hs : sizeT P ty = some 1) (i j : Nat) {a : α} (ho : o = i * sz + j) (hx : xs[i]? = some a) (hj : j < sz) (ha' : enc a' = (enc a).set j u) (h1 : u.oneCell' = true)
    (h : ∀ w', Hp w0 F w' (L.set n (own e sz (.slice (some ⟨g, 0, none⟩) l c) l (flat enc (xs.set i a')))) M → k undef w') : storeK P ty (.pointer (some ⟨g, o, none⟩)) u w k := by
  subst ho
  have hi := (List.getElem?_eq_some_iff.1 hx).1
  have h2 : (i + 1) * sz ≤ xs.length * sz := Nat.mul_le_mul_right _ (by omega)
  rw [Nat.succ_mul] at h2
  refine H.storeOwn n hn hs (by rw [flat_length he]; omega) h1 fun w' H' => h w' ?_
  have e : (flat enc xs).set (i * sz + j) u = flat enc (xs.set i a') := by
    have hl : (flat enc (xs.take i)).length = i * sz := by rw [flat_length he, List.length_take, Nat.min_eq_left (by omega)]
    have hs' : (xs.set i a')[i]? = some a' := by simp [hi]
    rw [flat_split hx, flat_split hs', List.take_set_of_le (Nat.le_refl _), List.drop_set_of_lt (by omega), ha', List.append_assoc, List.append_assoc,
      List.set_append_right _ _ (by omega), hl, Nat.add_sub_cancel_left, List.set_append_left _ _ (by rw [he]; exact hj)]
  rwa [e] at H'
end

/-! ### Parts that are taken together -/
def seps (Ls : List Res) : Res :=
  ⟨fun g => ∃ r ∈ Ls, r.foot g, fun w => (∀ r ∈ Ls, r.ok w) ∧ (∀ r ∈ Ls, ∀ g, r.foot g → g < w.heap.size) ∧ Ls.Pairwise fun (r s : Res) => ∀ g : Nat, r.foot g → ¬ s.foot g,
    fun w w' h ⟨h1, h2, h3⟩ => ⟨fun r hr => r.stable w w' (fun g hg => h g ⟨r, hr, hg⟩) (h1 r hr), fun r hr g hg => by
      have := h2 r hr g hg
      have e := h g ⟨r, hr, hg⟩
      rw [Array.getElem?_eq_getElem this] at e
      exact (Array.getElem?_eq_some_iff.1 e).1, h3⟩⟩

section
variable {P : Program} {w0 w w' : World} {F : Nat → Prop} {L M Ls : List Res} {k kk : Value → World → Prop} {r r' : Res}

theorem Hp.join (H : Hp w0 F w (Ls ++ L) M) : Hp w0 F w (seps Ls :: L) M := by
  obtain ⟨h1, h2, h3⟩ := List.pairwise_append.1 H.dis
  refine ⟨H.keeps, ?_, ?_, ?_, ?_, H.rok, H.rlt, ?_⟩
  · intro r hr
    rcases List.mem_cons.1 hr with rfl | hr
    · exact ⟨fun r hr => H.ok r (List.mem_append_left _ hr), fun r hr => H.lt r (List.mem_append_left _ hr), h1⟩
    · exact H.ok r (List.mem_append_right _ hr)
  · intro r hr g hg
    rcases List.mem_cons.1 hr with rfl | hr
    · obtain ⟨s, hs, hg⟩ := hg; exact H.lt s (List.mem_append_left _ hs) g hg
    · exact H.lt r (List.mem_append_right _ hr) g hg
  · intro r hr g hg
    rcases List.mem_cons.1 hr with rfl | hr
    · obtain ⟨s, hs, hg⟩ := hg; exact H.new s (List.mem_append_left _ hs) g hg
    · exact H.new r (List.mem_append_right _ hr) g hg
  · refine .cons (fun s hs g ⟨q, hq, hg⟩ hg' => h3 q hq s hs g hg hg') h2
  · intro r hr s hs g hg hg'
    rcases List.mem_cons.1 hs with rfl | hs
    · obtain ⟨q, hq, hg'⟩ := hg'; exact H.rdis r hr q (List.mem_append_left _ hq) g hg hg'
    · exact H.rdis r hr s (List.mem_append_right _ hs) g hg hg'
theorem Hp.split (H : Hp w0 F w (seps Ls :: L) M) : Hp w0 F w (Ls ++ L) M := by
  obtain ⟨h1, h2, h3⟩ := H.ok _ (.head _)
  have hd := List.pairwise_cons.1 H.dis
  refine ⟨H.keeps, ?_, ?_, ?_, ?_, H.rok, H.rlt, ?_⟩
  · intro r hr
    rcases List.mem_append.1 hr with hr | hr
    · exact h1 r hr
    · exact H.ok r (.tail _ hr)
  · intro r hr
    rcases List.mem_append.1 hr with hr | hr
    · exact h2 r hr
    · exact H.lt r (.tail _ hr)
  · intro r hr g hg
    rcases List.mem_append.1 hr with hr | hr
    · exact H.new _ (.head _) g ⟨r, hr, hg⟩
    · exact H.new r (.tail _ hr) g hg
  · exact List.pairwise_append.2 ⟨h3, hd.2, fun r hr s hs g hg hg' => hd.1 s hs g ⟨r, hr, hg⟩ hg'⟩
  · intro r hr s hs g hg hg'
    rcases List.mem_append.1 hs with hs | hs
    · exact H.rdis r hr _ (.head _) g hg ⟨s, hs, hg'⟩
    · exact H.rdis r hr s (.tail _ hs) g hg hg'

/-- A part turned by a call. -/
structure Turn (w w' : World) (r r' : Res) : Prop where
  keeps : Keeps r.foot w w'
  ok : r'.ok w'
  foot : ∀ g, r'.foot g → g < w'.heap.size ∧ (r.foot g ∨ w.heap.size ≤ g)
theorem Hp.turnBy (H : Hp w0 F w L M) (n : Nat) (hn : L[n]? = some r) (h : Turn w w' r r') : Hp w0 F w' (L.set n r') M := H.turn n hn r' h.keeps h.ok h.foot
theorem Hp.own1 (hr : r.ok w) (hlt : ∀ g, r.foot g → g < w.heap.size) : Hp w r.foot w [r] [] :=
  ⟨Keeps.refl _ _, by simpa using hr, by simpa using hlt, by intro s hs g hg; rw [List.mem_singleton] at hs; subst hs; exact .inr hg, by simp, by simp, by simp, by simp⟩
theorem Hp.own1M (hr : r.ok w) (hlt : ∀ g, r.foot g → g < w.heap.size) (hM : ∀ s ∈ M, s.ok w) (hMlt : ∀ s ∈ M, ∀ g, s.foot g → g < w.heap.size) (hd : ∀ s ∈ M, ∀ g, s.foot g → ¬ r.foot g) : Hp w r.foot w [r] M :=
  ⟨Keeps.refl _ _, by simpa using hr, by simpa using hlt, by intro s hs g hg; rw [List.mem_singleton] at hs; subst hs; exact .inr hg, by simp, hM, hMlt, by simpa using hd⟩
theorem Hp.outTurn (H : Hp w r.foot w' (r' :: L) M) : Turn w w' r r' :=
  ⟨H.keeps, H.ok _ (.head _), fun g hg => ⟨H.lt _ (.head _) g hg, (H.new _ (.head _) g hg).symm⟩⟩
theorem Turn.refl (hr : r.ok w) (hlt : ∀ g, r.foot g → g < w.heap.size) : Turn w w r r := ⟨Keeps.refl _ _, hr, fun g hg => ⟨hlt g hg, .inl hg⟩⟩
theorem Turn.same {w1 : World} (h : Turn w w1 r r') (hk : Same w1 w') : Turn w w' r r' :=
  ⟨h.keeps.trans hk (by simp), r'.stable _ _ (fun g hg => hk.old g (h.foot g hg).1 id) h.ok, fun g hg => ⟨Nat.lt_of_lt_of_le (h.foot g hg).1 hk.size, (h.foot g hg).2⟩⟩
/-- One part taken for another one that says no more. -/
theorem Hp.re (H : Hp w0 F w (r :: L) M) (hok : r.ok w → r'.ok w) (hf : ∀ g, r'.foot g → r.foot g) : Hp w0 F w (r' :: L) M := by
  have hd := List.pairwise_cons.1 H.dis
  refine ⟨H.keeps, ?_, ?_, ?_, ?_, H.rok, H.rlt, ?_⟩
  · intro s hs
    rcases List.mem_cons.1 hs with rfl | hs
    · exact hok (H.ok _ (.head _))
    · exact H.ok s (.tail _ hs)
  · intro s hs g hg
    rcases List.mem_cons.1 hs with rfl | hs
    · exact H.lt _ (.head _) g (hf g hg)
    · exact H.lt s (.tail _ hs) g hg
  · intro s hs g hg
    rcases List.mem_cons.1 hs with rfl | hs
    · exact H.new _ (.head _) g (hf g hg)
    · exact H.new s (.tail _ hs) g hg
  · exact .cons (fun s hs g hg => hd.1 s hs g (hf g hg)) hd.2
  · intro q hq s hs g hg hg'
    rcases List.mem_cons.1 hs with rfl | hs
    · exact H.rdis q hq _ (.head _) g hg (hf g hg')
    · exact H.rdis q hq s (.tail _ hs) g hg hg'
/-- A cell of what is only read. -/
theorem Hp.loadRO (H : Hp w0 F w L M) (n : Nat) {S : Nat → Prop} {ty : TypeId} {sz g o o' i l c : Nat} {xs : List Value} {u : Value} (hn : M[n]? = some (sl S (.slice (some ⟨g, o, none⟩) l c) sz l xs)) (hagg : aggT P ty = some false)
    (ho : o' = o + i) (hx : xs[i]? = some u) (h : k u w) : loadK P ty (.pointer (some ⟨g, o', none⟩)) w k := by
  subst ho
  obtain ⟨h1, A, c', hv, _, h2⟩ := H.ro n hn
  injection hv with hA _ hc
  subst hA; subst hc
  have hi := (List.getElem?_eq_some_iff.1 hx).1
  rcases h2 with rfl | ⟨g', o2, hA, _, hcell⟩
  · simp at h1; subst h1; simp at hi
  · injection hA with hA; injection hA with e1 e2 _; subst e1; subst e2
    exact load_cell hagg ((hcell i (by omega)).trans hx) h
end
/-! ### The same rules for whatever part is known to stand (own, or only read) -/
section
variable {P : Program} {w : World} {k kk : Value → World → Prop}
theorem ld_blk {g i : Nat} {t ty : TypeId} {cs : Array Value} {u : Value} (hr : (blk g t cs).ok w) (hagg : aggT P ty = some false) (hc : cs[i]? = some u)
    (h : k u w) : loadK P ty (.pointer (some ⟨g, i, none⟩)) w k := load_cell hagg ((blk_cell hr i).trans hc) h
theorem ld_own {e ty : TypeId} {sz g i l c : Nat} {xs : List Value} {u : Value} (hr : (own e sz (.slice (some ⟨g, 0, none⟩) l c) l xs).ok w) (hagg : aggT P ty = some false)
    (hx : xs[i]? = some u) (h : k u w) : loadK P ty (.pointer (some ⟨g, i, none⟩)) w k := by
  have hlen := hr.1
  refine load_cell hagg ?_ h
  rw [own_cell hr i (by have := (List.getElem?_eq_some_iff.1 hx).1; omega), hx]
theorem ld_fld {α : Type} {enc : α → List Value} {e ty : TypeId} {sz g o l c : Nat} {xs : List α} (hr : (own e sz (.slice (some ⟨g, 0, none⟩) l c) l (flat enc xs)).ok w)
    (he : ∀ a, (enc a).length = sz) (hagg : aggT P ty = some false) (i j : Nat) {a : α} {u : Value} (ho : o = i * sz + j) (hx : xs[i]? = some a) (hj : (enc a)[j]? = some u)
    (h : k u w) : loadK P ty (.pointer (some ⟨g, o, none⟩)) w k := by
  subst ho
  have hjs : j < sz := by have := (List.getElem?_eq_some_iff.1 hj).1; rwa [he] at this
  exact ld_own hr hagg ((flat_cell he hx j hjs).trans hj) h
theorem ld_agg {α : Type} {enc : α → List Value} {e ty : TypeId} {sz g o l c : Nat} {xs : List α} (hok : (own e sz (.slice (some ⟨g, 0, none⟩) l c) l (flat enc xs)).ok w)
    (he : ∀ a, (enc a).length = sz) (hagg : aggT P ty = some true) (hs : sizeT P ty = some sz) (i : Nat) {a : α} (ho : o = i * sz) (hx : xs[i]? = some a)
    (h : k (.agg (enc a).toArray) w) : loadK P ty (.pointer (some ⟨g, o, none⟩)) w k := by
  subst ho
  have hlen : (flat enc xs).length = l * sz := hok.1
  rw [flat_length he] at hlen
  have hi := (List.getElem?_eq_some_iff.1 hx).1
  refine load_cells (enc a) hagg (by rw [he]; exact hs) (fun j v hj => ?_) h
  have hjs : j < sz := by have := (List.getElem?_eq_some_iff.1 hj).1; rwa [he] at this
  have hadd : (⟨g, i * sz, none⟩ : Addr).add j = ⟨g, i * sz + j, none⟩ := by unfold Addr.add; split <;> simp_all
  have h1 : (i + 1) * sz ≤ xs.length * sz := Nat.mul_le_mul_right _ (by omega)
  rw [Nat.succ_mul] at h1
  rw [hadd, own_cell hok (i * sz + j) (by omega), flat_cell he hx j hjs, hj]
theorem own_base {e : TypeId} {sz : Nat} {A : Option Addr} {l c : Nat} {xs : List Value} (hr : (own e sz (.slice A l c) l xs).ok w) (hl : 0 < l) : ∃ g, A = some ⟨g, 0, none⟩ := by
  rcases hr.2 with ⟨_, rfl⟩ | ⟨g, cap, cur, hv, _⟩
  · omega
  · injection hv with hA _ _; exact ⟨g, hA⟩
theorem own_form {e : TypeId} {sz : Nat} {v : Value} {l : Nat} {xs : List Value} (hr : (own e sz v l xs).ok w) : ∃ A c, v = .slice A l c ∧ l ≤ c := by
  rcases hr.2 with ⟨rfl, rfl⟩ | ⟨g, cap, cur, hv, _, _, hc, _⟩
  · exact ⟨_, _, rfl, Nat.le_refl _⟩
  · exact ⟨_, _, hv, hc⟩
section
variable {α β : Type} {ka : α → Value} {vb : β → Value} {z : Value} {t kt et : TypeId} {l : List (α × β)} {r : Nat}
theorem lookupOk_at [DecidableEq α] (hr : (mapR ka vb r l).ok w) (W : MapW P t kt et ka vb z) (a : α)
    (h1 : ∀ b, aget l a = some b → kk (.tuple #[vb b, .bool true]) w) (h2 : aget l a = none → kk (.tuple #[z, .bool false]) w) : lookupK P t (.map (some r)) (ka a) true w kk := by
  obtain ⟨es, clock, hb, hs, hl⟩ := hr
  unfold lookupK
  rcases mapR_find W hs hl a w with ⟨hf, hg, _⟩ | ⟨j, e, b, hf, he, hek, hlj, hv, hg⟩
  · exact ⟨_, w, by simp [Instr.lookup, run_underlying W.und, MapKept.run_getObj_map hb, W.key.check w _ ⟨a, rfl⟩, hf, run_zero W.zero, Result.andThen], h2 hg⟩
  · exact ⟨_, w, by simp [Instr.lookup, run_underlying W.und, MapKept.run_getObj_map hb, W.key.check w _ ⟨a, rfl⟩, hf, hv, Result.andThen], h1 b hg⟩
theorem lenMap_at (hr : (mapR ka vb r l).ok w) (W : MapW P t kt et ka vb z) {ty : TypeId} {cst : Array Bool}
    (h : kk (.int .i64 (l.length : Int)) w) : builtinK P .len #[t] ty cst [.map (some r)] w kk := by
  obtain ⟨es, clock, hb, hs, hl⟩ := hr
  have hlen : es.size = l.length := by have := congrArg List.length hl; simpa using this
  unfold builtinK
  refine ⟨_, w, ?_, h⟩
  show (do pure (.value (← Builtin.len_ #[t] ty #[.map (some r)])) : Sem Next).run P w = _
  simp [Builtin.len_, run_underlying W.und, MapKept.run_getObj_map hb, goInt, hlen, Result.andThen]
end
end
/-! ### Conversions that change nothing -/
section
variable {P : Program} {w : World} {kk : Value → World → Prop} {s d : TypeId} {kd : IntKind} {n : Int}
theorem conv_i64 (hs : (P.underlying s).isSome = true) (hd : P.underlying d = some (.int .i64)) (h0 : -9223372036854775808 ≤ n) (h1 : n < 9223372036854775808) (h : kk (.int .i64 n) w) : convK P s d (.int kd n) w kk :=
  conv_int hs hd (by rw [wrap_i64_in h0 h1]; exact h)
theorem conv_u8 (hs : (P.underlying s).isSome = true) (hd : P.underlying d = some (.int .u8)) (h0 : 0 ≤ n) (h1 : n < 256) (h : kk (.int .u8 n) w) : convK P s d (.int kd n) w kk :=
  conv_int hs hd (by rw [wrap_u8_in h0 h1]; exact h)
theorem conv_u64 (hs : (P.underlying s).isSome = true) (hd : P.underlying d = some (.int .u64)) (h0 : 0 ≤ n) (h1 : n < 18446744073709551616) (h : kk (.int .u64 n) w) : convK P s d (.int kd n) w kk :=
  conv_int hs hd (by rw [wrap_u64_in h0 h1]; exact h)
end
/-! ### Shifts, quotients, remainders -/
section
variable {P : Program} {w : World} {kk : Value → World → Prop} {t : TypeId} {xo yo : Operand}
theorem bin_one_shl_i64 {yk : IntKind} {n : Nat} (hn : n ≤ 62) (h : kk (.int .i64 ((2 ^ n : Nat) : Int)) w) : binK P .shl t xo yo (.int .i64 1) (.int yk (n : Int)) w kk := by
  have h2 : 2 ^ n ≤ 2 ^ 62 := Nat.pow_le_pow_right (by decide) hn
  refine bin_by_eq (x' := ((1 : Nat) : Int)) rfl rfl (bin_shl_i64 (by omega) (by omega) ?_)
  rwa [Nat.one_mul]
theorem bin_one_shl_u8 {yk : IntKind} {n : Nat} (hn : n ≤ 7) (h : kk (.int .u8 ((2 ^ n : Nat) : Int)) w) : binK P .shl t xo yo (.int .u8 1) (.int yk (n : Int)) w kk := by
  have h2 : 2 ^ n ≤ 2 ^ 7 := Nat.pow_le_pow_right (by decide) hn
  refine bin_shl (by omega) ?_
  have : min (n : Int).toNat IntKind.u8.bits = n := by simp [IntKind.bits]; omega
  rw [this, show ((1 : Int) * 2 ^ n) = ((2 ^ n : Nat) : Int) by simp]
  generalize 2 ^ n = k at h2 h ⊢
  rw [wrap_u8_in (by omega) (by omega)]
  exact h
theorem bin_shr_u8 {yk : IntKind} {x n : Nat} (hn : n ≤ 8) (h : kk (.int .u8 ((x / 2 ^ n : Nat) : Int)) w) : binK P .shr t xo yo (.int .u8 (x : Int)) (.int yk (n : Int)) w kk := by
  refine bin_shr (by omega) ?_
  have : min (n : Int).toNat IntKind.u8.bits = n := by simp [IntKind.bits]; omega
  rw [this, Int.fdiv_eq_ediv_of_nonneg _ (by exact_mod_cast Nat.zero_le _)]
  have e : ((x : Int) / 2 ^ n) = ((x / 2 ^ n : Nat) : Int) := by simp
  rw [e]; exact h
theorem bin_quo_u8 {x y : Nat} (hx : x < 256) (hy : 0 < y) (h : kk (.int .u8 ((x / y : Nat) : Int)) w) : binK P .quo t xo yo (.int .u8 (x : Int)) (.int .u8 (y : Int)) w kk := by
  refine bin_quo (by omega) ?_
  have h2 : x / y ≤ x := Nat.div_le_self x y
  rw [Int.tdiv_eq_ediv_of_nonneg (by omega), show ((x : Int) / (y : Int)) = ((x / y : Nat) : Int) by simp]
  generalize x / y = q at h2 h ⊢
  rw [wrap_u8_in (by omega) (by omega)]
  exact h
theorem bin_rem_u8 {x y : Nat} (hy : 0 < y) (h : kk (.int .u8 ((x % y : Nat) : Int)) w) : binK P .rem t xo yo (.int .u8 (x : Int)) (.int .u8 (y : Int)) w kk := by
  refine bin_rem (by omega) ?_
  rw [Int.tmod_eq_emod_of_nonneg (by omega), show ((x : Int) % (y : Int)) = ((x % y : Nat) : Int) by simp]
  exact h
theorem bit_u8 (m i : Nat) : (((m / 2 ^ i &&& 1 : Nat) : Int) == 0) = !m.testBit i := by
  rw [Nat.testBit_eq_decide_div_mod_eq, Nat.and_one_is_mod]
  generalize m / 2 ^ i = q
  rw [Bool.eq_iff_iff, beq_iff_eq, Bool.not_eq_true', decide_eq_false_iff_not]
  omega
end
/-! ### Conditions, with what they say -/
theorem cond_dec {p : Prop} [Decidable p] {q r : Prop} (h1 : p → q) (h2 : ¬ p → r) : condB (decide p) q r :=
  cond_split (fun h => h1 (of_decide_eq_true h)) (fun h => h2 (of_decide_eq_false h))
theorem cond_beq {a b : Int} {q r : Prop} (h1 : a = b → q) (h2 : a ≠ b → r) : condB (a == b) q r :=
  cond_split (fun h => h1 (beq_iff_eq.1 h)) (fun h => h2 (beq_eq_false_iff_ne.1 h))
theorem cond_bne {a b : Int} {q r : Prop} (h1 : a ≠ b → q) (h2 : a = b → r) : condB (a != b) q r :=
  cond_split (fun h => h1 (by simpa using h)) (fun h => h2 (by simpa using h))
end Go.Dk
end

section
/- Strings: their bytes, ranges over them, and what bytes make. -/
namespace Go.Dk

/-- Bytes as values. -/
def bytesV (l : List UInt8) : List Value := l.map fun b => Value.int .u8 (b.toNat : Int)
def strV (l : List UInt8) : Value := .string ⟨l.toArray⟩
theorem bytesV_length (l : List UInt8) : (bytesV l).length = l.length := by simp [bytesV]
theorem bytesV_get {l : List UInt8} {i : Nat} (hi : i < l.length) : (bytesV l)[i]? = some (.int .u8 (l[i].toNat : Int)) := by simp [bytesV, hi]

/-- An iterator over a string. -/
def iterS (r : Nat) (s : ByteArray) (pos : Nat) : Res := ⟨fun g => g = r, fun w => w.heap[r]? = some (.stringIter s pos), fun _ _ h hw => (h r rfl).trans hw⟩

section
variable {P : Program} {w0 w : World} {F : Nat → Prop} {L M : List Res} {k kk : Value → World → Prop}

theorem Hp.rangeStr (H : Hp w0 F w L M) {t : TypeId} {s : ByteArray} (ht : P.underlying t = some .string)
    (h : ∀ r w', Hp w0 F w' (iterS r s 0 :: L) M → k (.pointer (some ⟨r, 0, none⟩)) w') : rangeK P t (.string s) w k := by
  unfold rangeK
  refine ⟨_, w.alloc (.stringIter s 0), ?_, h w.heap.size _ (H.add (Keeps.alloc _ _) _ (heap_alloc_new w _) ?_)⟩
  · simp [Instr.range, run_underlying ht]
  · rintro g rfl; exact ⟨Nat.le_refl _, by simp⟩

theorem run_getObj_iter {r pos : Nat} {s : ByteArray} (hb : w.heap[r]? = some (.stringIter s pos)) : (getObj r).run P w = .ok (.stringIter s pos) w := by
  simp [getObj, Sem.run, hb]
theorem run_setObj_iter {r pos : Nat} {s : ByteArray} (o : Obj) (hb : w.heap[r]? = some (.stringIter s pos)) : (setObj r o).run P w = .ok () { w with heap := w.heap.setIfInBounds r o } := by
  simp [setObj, Sem.run, hb]
theorem Hp.nextStr (H : Hp w0 F w L M) (n : Nat) {ty : TypeId} {r pos : Nat} {s : ByteArray} (hn : L[n]? = some (iterS r s pos))
    (h1 : pos < s.size → ∀ w', Hp w0 F w' (L.set n (iterS r s (pos + (Utf8.decode s pos).2))) M → k (.tuple #[.bool true, .int .i64 (pos : Int), .int .i32 ((Utf8.decode s pos).1 : Int)]) w')
    (h2 : ¬ pos < s.size → k (.tuple #[.bool false]) w) : nextK P (.pointer (some ⟨r, 0, none⟩)) true ty w k := by
  have hb : w.heap[r]? = some (.stringIter s pos) := H.get n hn
  have hlt := (Array.getElem?_eq_some_iff.1 hb).1
  unfold nextK
  by_cases hp : pos < s.size
  · have hset := MapKept.heap_set (o' := .stringIter s (pos + (Utf8.decode s pos).2)) hb
    refine ⟨_, { w with heap := w.heap.setIfInBounds r (.stringIter s (pos + (Utf8.decode s pos).2)) }, ?_, h1 hp _ (H.turn n hn _ ⟨rfl, rfl, rfl, by simp, fun g _ hne => hset.2 g hne⟩ hset.1 ?_)⟩
    · simp only [Instr.next, Sem.run_bind, run_getObj_iter hb, Result.andThen_ok, hp, if_true, run_setObj_iter _ hb, Sem.run_pure, goInt]
    · rintro g rfl; exact ⟨by simpa using hlt, .inl rfl⟩
  · exact ⟨_, w, by simp only [Instr.next, Sem.run_bind, run_getObj_iter hb, Result.andThen_ok, hp, if_false, Sem.run_pure], h2 hp⟩

theorem idx_str {t : TypeId} {s : ByteArray} {i : Nat} {kd : IntKind} (hi : i < s.size) (ht : P.underlying t = some .string) (h : kk (.int .u8 (s[i].toNat : Int)) w) : idxK P t (.string s) (.int kd (i : Int)) w kk := by
  unfold idxK
  refine ⟨_, w, ?_, h⟩
  have e : s[i]? = some s[i] := getElem?_pos s i hi
  simp [Instr.index, asIntOf, run_underlying ht, e]

theorem str_append (a b : List UInt8) : (⟨a.toArray⟩ ++ ⟨b.toArray⟩ : ByteArray) = ⟨(a ++ b).toArray⟩ := by
  ext1
  simp
theorem bin_add_str {t : TypeId} {xo yo : Operand} {a b : List UInt8} (hs : a.length + b.length < 9223372036854775808) (h : kk (strV (a ++ b)) w) : binK P .add t xo yo (strV a) (strV b) w kk := by
  unfold binK strV
  refine ⟨_, w, ?_, h⟩
  have e1 : (⟨a.toArray⟩ : ByteArray).size = a.length := by simp [ByteArray.size]
  have e2 : (⟨b.toArray⟩ : ByteArray).size = b.length := by simp [ByteArray.size]
  rw [eqGuard_at_string]
  simp only [binOp, Op.stringOp, e1, e2, pure_bind]
  rw [if_neg (by simp only [IntKind.max_i64]; omega), str_append]
  rfl
theorem idx_strL {t : TypeId} {l : List UInt8} {i : Nat} {kd : IntKind} (hi : i < l.length) (ht : P.underlying t = some .string) (h : kk (.int .u8 (l[i].toNat : Int)) w) : idxK P t (strV l) (.int kd (i : Int)) w kk :=
  idx_str (s := ⟨l.toArray⟩) (by simpa [ByteArray.size] using hi) ht h
theorem bin_eql_strL {t : TypeId} {xo yo : Operand} {a b : List UInt8} (h : kk (.bool (a == b)) w) : binK P .eql t xo yo (strV a) (strV b) w kk :=
  bin_eql_str (by rw [ByteArray.toList_mk, ByteArray.toList_mk]; exact h)
theorem bin_neq_strL {t : TypeId} {xo yo : Operand} {a b : List UInt8} (h : kk (.bool (!(a == b))) w) : binK P .neq t xo yo (strV a) (strV b) w kk :=
  bin_neq_str (by rw [ByteArray.toList_mk, ByteArray.toList_mk]; exact h)
theorem foldl_push (bs : List UInt8) : ∀ r : ByteArray, ((bs.map fun b => (b.toNat : Int)).foldl (fun r n => r.push (UInt8.ofNat n.toNat)) r) = ⟨r.data ++ bs.toArray⟩ := by
  induction bs with
  | nil => intro r; simp
  | cons b bs ih =>
    intro r
    simp only [List.map_cons, List.foldl_cons, ih]
    simp [ByteArray.push]
/-- string(bytes), of one's own. -/
theorem Hp.bytesStr (H : Hp w0 F w L M) (n : Nat) {s d e : TypeId} {A : Option Addr} {l c : Nat} {bs : List UInt8} (hs : P.underlying s = some (.slice e)) (he : P.underlying e = some (.int .u8)) (hd : P.underlying d = some .string)
    (hn : L[n]? = some (own e 1 (.slice A l c) l (bytesV bs))) (h : kk (strV bs) w) : convK P s d (.slice A l c) w kk := by
  have hok := H.get n hn
  have hlen : bs.length = l := by have := hok.1; rw [bytesV_length] at this; omega
  unfold convK
  rcases hok.2 with ⟨hv, h0⟩ | ⟨g, cap, cur, hv, _⟩
  · injection hv with hv _ _
    subst hv
    have : bs = [] := List.length_eq_zero_iff.1 (by omega)
    subst this
    refine ⟨strV [], w, ?_, h⟩
    rw [run_convert_bytes_string w s d e none l c hs he hd]
    simp [Conv.bytesToString]
    rfl
  · injection hv with hv _ _
    subst hv
    refine ⟨strV bs, w, ?_, h⟩
    rw [run_convert_bytes_string w s d e _ l c hs he hd]
    have hl := run_loadCells_list (P := P) w ⟨g, 0, none⟩ (bytesV bs) (fun j v hj => by
      have hadd : (⟨g, 0, none⟩ : Addr).add j = ⟨g, j, none⟩ := by unfold Addr.add; split <;> simp_all
      have hj' := (List.getElem?_eq_some_iff.1 hj).1
      rw [bytesV_length] at hj'
      rw [hadd, own_cell hok j (by omega), hj])
    rw [bytesV_length, hlen] at hl
    have := run_bytesToString (P := P) w ⟨g, 0, none⟩ l c (bs.map fun b => (b.toNat : Int)) (by rw [hl]; simp [bytesV, Function.comp_def])
    rw [this, foldl_push]
    simp [strV]
end
end Go.Dk
end

section
/- Sets of points: their values, and the functions of package set. -/
namespace Go.Proofs.Ytjebpngdinbckaa
open Go.Dk
attribute [local irreducible] IntKind.wrap

theorem fol : Try.prog.follows .mixedOrders = true := by kernel_rfl

/-! ### A set as a number -/
def word (n i : Nat) : Nat := n / 2 ^ (64 * i) % 2 ^ 64
def sc (n : Nat) : Array Value := #[.int .u64 (word n 0 : Int), .int .u64 (word n 1 : Int), .int .u64 (word n 2 : Int), .int .u64 (word n 3 : Int)]
def sv (n : Nat) : Value := .agg (sc n)

theorem word_lt (n i : Nat) : word n i < 18446744073709551616 := Nat.mod_lt _ (by decide)
theorem testBit_word (n i j : Nat) : (word n i).testBit j = (decide (j < 64) && n.testBit (64 * i + j)) := by
  unfold word
  rw [Nat.testBit_mod_two_pow, Nat.testBit_div_two_pow, Nat.add_comm]
theorem sc_get (n i : Nat) (hi : i < 4) : (sc n)[i]? = some (.int .u64 (word n i : Int)) := by
  match i, hi with
  | 0, _ => rfl
  | 1, _ => rfl
  | 2, _ => rfl
  | 3, _ => rfl
theorem sc_ext {cs : Array Value} {n : Nat} (hs : cs.size = 4) (h : ∀ i, i < 4 → cs[i]? = some (.int .u64 (word n i : Int))) : cs = sc n := by
  apply Array.ext_getElem?
  intro i
  by_cases hi : i < 4
  · rw [h i hi, sc_get n i hi]
  · rw [Array.getElem?_eq_none (by omega), Array.getElem?_eq_none (by show 4 ≤ i; omega)]
theorem sc_zero : #[Value.int .u64 0, .int .u64 0, .int .u64 0, .int .u64 0] = sc 0 := sc_ext rfl fun i hi => by
  match i, hi with
  | 0, _ => rfl
  | 1, _ => rfl
  | 2, _ => rfl
  | 3, _ => rfl
theorem word_or (n m i : Nat) : word (n ||| m) i = word n i ||| word m i := by
  apply Nat.eq_of_testBit_eq; intro j
  rw [Nat.testBit_or, testBit_word, testBit_word, testBit_word, Nat.testBit_or]
  cases decide (j < 64) <;> simp
theorem word_pow (p i : Nat) : word (2 ^ p) i = if p / 64 = i then 2 ^ (p % 64) else 0 := by
  apply Nat.eq_of_testBit_eq; intro j
  rw [testBit_word, Nat.testBit_two_pow]
  split
  · rename_i h
    subst h
    rw [Nat.testBit_two_pow]
    by_cases hj : j < 64
    · simp only [hj, decide_true, Bool.true_and]
      rw [Bool.eq_iff_iff]; simp; omega
    · simp only [hj, decide_false, Bool.false_and]
      have : p % 64 ≠ j := by omega
      simp [this]
  · rename_i h
    by_cases hj : j < 64
    · have : ¬ p = 64 * i + j := by omega
      simp [this]
    · simp [hj]
theorem sc_with (n p : Nat) (_ : p < 256) : (sc n).setIfInBounds (p / 64) (.int .u64 ((word n (p / 64) ||| 2 ^ (p % 64) : Nat) : Int)) = sc (n ||| 2 ^ p) := by
  refine sc_ext (by simp [sc]) fun i hi => ?_
  rw [word_or, word_pow]
  by_cases h : p / 64 = i
  · subst h
    rw [if_pos rfl, Array.getElem?_setIfInBounds_self_of_lt (by show p / 64 < 4; omega)]
  · rw [if_neg h, Array.getElem?_setIfInBounds_ne h, sc_get n i hi, Nat.or_zero]
theorem sc_one (n : Nat) : ∀ v ∈ (sc n).toList, v.oneCell' = true := by
  intro v hv
  simp [sc] at hv
  rcases hv with rfl | rfl | rfl | rfl <;> rfl

/-! ### may, at, With, Has -/
def mayB (p : Int) : Bool := decide (0 ≤ p) && decide (p < 256)

theorem ent156 : enters Try.prog 156 = true := by kernel_rfl
theorem c156 (p : Int) (w : World) : Fun Try.prog 156 [.int .i64 p] w fun v w' => v = .bool (mayB p) ∧ w' = w := by
  refine fun_of_W (N := 9) Try.func156 ent156 rfl rfl rfl (by simp) ?_
  refine cond_split (fun h => ?_) (fun h => ?_)
  · refine cond_yes h ?_
    refine cond_yes h ?_
    refine ⟨?_, rfl⟩
    have h' : decide (0 ≤ p) = true := h
    simp only [mayB, h', Bool.true_and]
    rfl
  · refine cond_no h ?_
    refine cond_no h ?_
    refine ⟨?_, rfl⟩
    have h' : decide (0 ≤ p) = false := h
    simp only [mayB, h', Bool.false_and]
    rfl

theorem ent157 : enters Try.prog 157 = true := by kernel_rfl
theorem c157 (p : Nat) (hp : p < 256) (w : World) : Fun Try.prog 157 [.int .i64 (p : Int)] w fun v w' => v = .tuple #[.int .i64 ((p / 64 : Nat) : Int), .int .u64 ((2 ^ (p % 64) : Nat) : Int)] ∧ Same w w' := by
  refine fun_of_W (N := 9) Try.func157 ent157 rfl rfl rfl (by simp) ?_
  refine draw_mix (fun _ => True) fol (by kernel_rfl) trivial ?_
  refine quiet (.int .i64 ((p / 64 : Nat) : Int)) (fun w _ => bin_quo_i64 (by omega) (by omega) (by omega) ⟨by simp, rfl⟩) ?_
  refine quiet (.int .i64 ((p % 64 : Nat) : Int)) (fun w _ => bin_rem_i64 (by omega) (by omega) ⟨by simp, rfl⟩) ?_
  refine quiet (.int .u64 ((2 ^ (p % 64) : Nat) : Int)) (fun w _ => bin_shl_u64 (x := 1) (n := p % 64) (by omega) ?_ ⟨by simp, rfl⟩) ?_
  · have : 2 ^ (p % 64) < 2 ^ 64 := Nat.pow_lt_pow_right (by decide) (by omega)
    omega
  exact ⟨rfl, Keeps.drew w⟩

theorem zero24 : zeroT Try.prog 24 = some (.agg #[.int .u64 0, .int .u64 0, .int .u64 0, .int .u64 0]) := by kernel_rfl
theorem agg24 : aggT Try.prog 24 = some true := by kernel_rfl
theorem size24 : sizeT Try.prog 24 = some 4 := by kernel_rfl
theorem agg22 : aggT Try.prog 22 = some false := by kernel_rfl
theorem size22 : sizeT Try.prog 22 = some 1 := by kernel_rfl

theorem ent46 : enters Try.prog 46 = true := by kernel_rfl
theorem c46_yes (n p : Nat) (hp : p < 256) (w : World) : Fun Try.prog 46 [sv n, .int .i64 (p : Int)] w fun v w' => v = sv (n ||| 2 ^ p) ∧ Same w w' := by
  refine fun_of_W (N := 21) Try.func46 ent46 rfl rfl rfl (by simp) ?_
  have H := Hp.start0 w
  refine H.box 24 (sv n) (cs := sc n) rfl ?_
  intro g1 w1 H
  refine H.alloc 24 (cs := sc 0) zero24 sc_zero ?_
  intro g2 w2 H
  refine call_fn (c156 _ _) ?_
  rintro v w2' ⟨rfl, rfl⟩
  refine cond_yes (by simp [mayB]; omega) ?_
  refine call_fn (c157 p hp _) ?_
  rintro v w3 ⟨rfl, hk⟩
  have H := H.same hk
  refine idxAddr_arr Try.underlying24 size22 (p / 64) rfl (by omega) (o' := p / 64) (by omega) ?_
  refine H.load 1 rfl agg22 (sc_get n (p / 64) (by omega)) ?_
  refine bin_or_u64 (word_lt _ _) ?_ ?_
  · have : 2 ^ (p % 64) < 2 ^ 64 := Nat.pow_lt_pow_right (by decide) (by omega)
    omega
  refine idxAddr_arr Try.underlying24 size22 (p / 64) rfl (by omega) (o' := p / 64) (by omega) ?_
  refine H.store 1 rfl size22 (by show p / 64 < 4; omega) rfl ?_
  rw [sc_with n p hp]
  intro w4 H
  refine H.loadAll 1 rfl agg24 size24 ?_
  refine H.storeAll 0 rfl size24 rfl (sc_one _) ?_
  intro w5 H
  refine H.loadAll 0 rfl agg24 size24 ?_
  exact ⟨rfl, rfl, H.keeps⟩
theorem c46_no (n : Nat) (p : Int) (hp : mayB p = false) (w : World) : Fun Try.prog 46 [sv n, .int .i64 p] w fun v w' => v = sv n ∧ Same w w' := by
  refine fun_of_W (N := 21) Try.func46 ent46 rfl rfl rfl (by simp) ?_
  have H := Hp.start0 w
  refine H.box 24 (sv n) (cs := sc n) rfl ?_
  intro g1 w1 H
  refine H.alloc 24 (cs := sc 0) zero24 sc_zero ?_
  intro g2 w2 H
  refine call_fn (c156 _ _) ?_
  rintro v w2' ⟨rfl, rfl⟩
  refine cond_no hp ?_
  refine H.loadAll 1 rfl agg24 size24 ?_
  refine H.storeAll 0 rfl size24 rfl (sc_one _) ?_
  intro w5 H
  refine H.loadAll 0 rfl agg24 size24 ?_
  exact ⟨rfl, rfl, H.keeps⟩
/-- With. -/
def withI (n : Nat) (p : Int) : Nat := if mayB p then n ||| 2 ^ p.toNat else n
theorem c46 (n : Nat) (p : Int) (w : World) : Fun Try.prog 46 [sv n, .int .i64 p] w fun v w' => v = sv (withI n p) ∧ Same w w' := by
  cases h : mayB p with
  | true =>
    have h' : 0 ≤ p ∧ p < 256 := by simpa [mayB] using h
    obtain ⟨q, rfl⟩ := Int.eq_ofNat_of_zero_le h'.1
    have := c46_yes n q (by omega) w
    simpa [withI, h] using this
  | false => simpa [withI, h] using c46_no n p h w

theorem word_and (n m i : Nat) : word (n &&& m) i = word n i &&& word m i := by
  apply Nat.eq_of_testBit_eq; intro j
  rw [Nat.testBit_and, testBit_word, testBit_word, testBit_word, Nat.testBit_and]
  cases decide (j < 64) <;> simp
theorem word_less {n : Nat} (hn : n < 2 ^ 256) (m i : Nat) : word (lessN n m) i = word n i &&& (18446744073709551615 - word m i) := by
  apply Nat.eq_of_testBit_eq; intro j
  have e : (18446744073709551615 - word m i : Nat) = 2 ^ 64 - (word m i + 1) := by have := word_lt m i; omega
  rw [Nat.testBit_and, testBit_word, testBit_word, e, Nat.testBit_two_pow_sub_succ (word_lt m i), testBit_word, testBit_lessN hn]
  by_cases hj : j < 64 <;> simp [hj]
theorem word_ext {n m : Nat} (hn : n < 2 ^ 256) (hm : m < 2 ^ 256) (h : ∀ i, i < 4 → word n i = word m i) : n = m := by
  refine set_ext hn hm fun p hp => ?_
  have := congrArg (fun x => Nat.testBit x (p % 64)) (h (p / 64) (by omega))
  simp only [testBit_word] at this
  have e : 64 * (p / 64) + p % 64 = p := by omega
  have hm : p % 64 < 64 := by omega
  simpa [hm, e] using this

theorem ent158 : enters Try.prog 158 = true := by kernel_rfl
theorem c158 (a b r : Nat) (g : FuncId) (op : Nat → Nat → Nat) (_ : ∀ x y : Nat, x < 18446744073709551616 → y < 18446744073709551616 → op x y < 18446744073709551616)
    (hr : ∀ i, i < 4 → word r i = op (word a i) (word b i))
    (hg : ∀ x y : Nat, x < 18446744073709551616 → y < 18446744073709551616 → ∀ w, Fun Try.prog g [.int .u64 (x : Int), .int .u64 (y : Int)] w fun v w' => v = .int .u64 (op x y : Int) ∧ Same w w') (w : World) :
    Fun Try.prog 158 [sv a, sv b, .func (.func g) #[] #[]] w fun v w' => v = sv r ∧ Same w w' := by
  refine fun_of_W (N := 24) Try.func158 ent158 rfl rfl rfl (by simp) ?_
  have H := Hp.start0 w
  refine H.box 24 (sv a) (cs := sc a) rfl ?_
  intro g1 w1 H
  refine H.box 24 (sv b) (cs := sc b) rfl ?_
  intro g2 w2 H
  refine H.alloc 24 (cs := sc 0) zero24 sc_zero ?_
  intro g3 w3 H
  refine H.alloc 24 (cs := sc 0) zero24 sc_zero ?_
  intro g4 w4 H
  refine loop_rule (γ := Nat) _ rfl (fun i => [(9, .int .i64 (i : Int))])
    (fun i w' => i ≤ 4 ∧ ∃ cs : Array Value, cs.size = 4 ∧ (∀ j, j < i → cs[j]? = some (.int .u64 (word r j : Int))) ∧ Hp w (fun _ => False) w' [blk g4 24 cs, blk g3 24 (sc 0), blk g2 24 (sc b), blk g1 24 (sc a)] [])
    (fun i => 4 - i) 0 ⟨rfl, trivial⟩ ⟨by omega, sc 0, rfl, by omega, H⟩ ?_
  clear H
  rintro i u w5 ⟨hi, cs, hcs, hpre, H⟩
  refine cond_split (fun h => ?_) (fun h => ?_)
  · have hi4 : i < 4 := by have := of_decide_eq_true h; omega
    refine draw_mix (fun w' => Hp w (fun _ => False) w' [blk g4 24 cs, blk g3 24 (sc 0), blk g2 24 (sc b), blk g1 24 (sc a)] []) fol (by kernel_rfl) (H.same (Keeps.drew _)) ?_
    refine quiet (.pointer (some ⟨g1, i, none⟩)) (fun w _ => idxAddr_arr Try.underlying24 size22 i rfl hi4 (by omega) ⟨rfl, rfl⟩) ?_
    refine quiet (.int .u64 (word a i : Int)) (fun w H => H.load 3 rfl agg22 (sc_get a i hi4) ⟨rfl, rfl⟩) ?_
    refine quiet (.pointer (some ⟨g2, i, none⟩)) (fun w _ => idxAddr_arr Try.underlying24 size22 i rfl hi4 (by omega) ⟨rfl, rfl⟩) ?_
    refine quiet (.int .u64 (word b i : Int)) (fun w H => H.load 2 rfl agg22 (sc_get b i hi4) ⟨rfl, rfl⟩) ?_
    refine call_fn (hg _ _ (word_lt _ _) (word_lt _ _) _) ?_
    rintro v w6 ⟨rfl, hk⟩
    have H := (H.same (Keeps.drew _)).same hk
    refine ⟨.inl H, ?_⟩
    refine quiet (.pointer (some ⟨g4, i, none⟩)) (fun w _ => idxAddr_arr Try.underlying24 size22 i rfl hi4 (by omega) ⟨rfl, rfl⟩) ?_
    refine H.store 0 rfl size22 (by omega) rfl ?_
    intro w7 H
    refine ⟨.inr (by kernel_rfl), ?_⟩
    refine ⟨i + 1, by omega, ⟨congrArg (Value.int .i64) (wrap_i64_in (by omega) (by omega)), trivial⟩, by omega, _, ?_, ?_, H⟩
    · simpa using hcs
    · intro j hj
      by_cases hji : j = i
      · subst hji; rw [Array.getElem?_setIfInBounds_self_of_lt (by omega), hr j hi4]
      · rw [Array.getElem?_setIfInBounds_ne (Ne.symm hji)]; exact hpre j (by omega)
  · have hi4 : i = 4 := by have := of_decide_eq_false h; omega
    subst hi4
    obtain rfl := sc_ext hcs hpre
    refine H.loadAll 0 rfl agg24 size24 ?_
    refine H.storeAll 1 rfl size24 rfl (sc_one _) ?_
    intro w6 H
    refine H.loadAll 1 rfl agg24 size24 ?_
    exact ⟨rfl, rfl, H.keeps⟩

theorem ent159 : enters Try.prog 159 = true := by kernel_rfl
theorem c159 (x y : Nat) (hx : x < 18446744073709551616) (hy : y < 18446744073709551616) (w : World) : Fun Try.prog 159 [.int .u64 (x : Int), .int .u64 (y : Int)] w fun v w' => v = .int .u64 ((x ||| y : Nat) : Int) ∧ Same w w' := by
  refine fun_of_W (N := 8) Try.func159 ent159 rfl rfl rfl (by simp) ?_
  refine bin_or_u64 hx hy ?_
  exact ⟨rfl, Keeps.refl _ _⟩
theorem ent160 : enters Try.prog 160 = true := by kernel_rfl
theorem c160 (x y : Nat) (hx : x < 18446744073709551616) (hy : y < 18446744073709551616) (w : World) : Fun Try.prog 160 [.int .u64 (x : Int), .int .u64 (y : Int)] w fun v w' => v = .int .u64 ((x &&& y : Nat) : Int) ∧ Same w w' := by
  refine fun_of_W (N := 8) Try.func160 ent160 rfl rfl rfl (by simp) ?_
  refine bin_and_u64 hx hy ?_
  exact ⟨rfl, Keeps.refl _ _⟩
theorem ent161 : enters Try.prog 161 = true := by kernel_rfl
theorem c161 (x y : Nat) (hx : x < 18446744073709551616) (hy : y < 18446744073709551616) (w : World) : Fun Try.prog 161 [.int .u64 (x : Int), .int .u64 (y : Int)] w fun v w' => v = .int .u64 ((x &&& (18446744073709551615 - y) : Nat) : Int) ∧ Same w w' := by
  refine fun_of_W (N := 8) Try.func161 ent161 rfl rfl rfl (by simp) ?_
  refine bin_andNot_u64 hx hy ?_
  exact ⟨rfl, Keeps.refl _ _⟩

theorem ent50 : enters Try.prog 50 = true := by kernel_rfl
theorem c50 (a b : Nat) (w : World) : Fun Try.prog 50 [sv a, sv b] w fun v w' => v = sv (a ||| b) ∧ Same w w' := by
  refine fun_of_W (N := 8) Try.func50 ent50 rfl rfl rfl (by simp) ?_
  have H := Hp.start0 w
  refine H.box 24 (sv a) (cs := sc a) rfl ?_
  intro g1 w1 H
  refine H.box 24 (sv b) (cs := sc b) rfl ?_
  intro g2 w2 H
  refine H.alloc 24 (cs := sc 0) zero24 sc_zero ?_
  intro g3 w3 H
  refine H.loadAll 2 rfl agg24 size24 ?_
  refine H.loadAll 1 rfl agg24 size24 ?_
  refine call_fn (c158 a b (a ||| b) 159 (· ||| ·) (fun x y hx hy => Nat.or_lt_two_pow (n := 64) hx hy) (fun i _ => word_or a b i) c159 _) ?_
  rintro v w4 ⟨rfl, hk⟩
  have H := H.same hk
  refine H.storeAll 0 rfl size24 rfl (sc_one _) ?_
  intro w5 H
  refine H.loadAll 0 rfl agg24 size24 ?_
  exact ⟨rfl, rfl, H.keeps⟩
theorem ent51 : enters Try.prog 51 = true := by kernel_rfl
theorem c51 (a b : Nat) (w : World) : Fun Try.prog 51 [sv a, sv b] w fun v w' => v = sv (a &&& b) ∧ Same w w' := by
  refine fun_of_W (N := 8) Try.func51 ent51 rfl rfl rfl (by simp) ?_
  have H := Hp.start0 w
  refine H.box 24 (sv a) (cs := sc a) rfl ?_
  intro g1 w1 H
  refine H.box 24 (sv b) (cs := sc b) rfl ?_
  intro g2 w2 H
  refine H.alloc 24 (cs := sc 0) zero24 sc_zero ?_
  intro g3 w3 H
  refine H.loadAll 2 rfl agg24 size24 ?_
  refine H.loadAll 1 rfl agg24 size24 ?_
  refine call_fn (c158 a b (a &&& b) 160 (· &&& ·) (fun x y hx _ => Nat.lt_of_le_of_lt Nat.and_le_left hx) (fun i _ => word_and a b i) c160 _) ?_
  rintro v w4 ⟨rfl, hk⟩
  have H := H.same hk
  refine H.storeAll 0 rfl size24 rfl (sc_one _) ?_
  intro w5 H
  refine H.loadAll 0 rfl agg24 size24 ?_
  exact ⟨rfl, rfl, H.keeps⟩
theorem ent52 : enters Try.prog 52 = true := by kernel_rfl
theorem c52 (a b : Nat) (ha : a < 2 ^ 256) (w : World) : Fun Try.prog 52 [sv a, sv b] w fun v w' => v = sv (lessN a b) ∧ Same w w' := by
  refine fun_of_W (N := 8) Try.func52 ent52 rfl rfl rfl (by simp) ?_
  have H := Hp.start0 w
  refine H.box 24 (sv a) (cs := sc a) rfl ?_
  intro g1 w1 H
  refine H.box 24 (sv b) (cs := sc b) rfl ?_
  intro g2 w2 H
  refine H.alloc 24 (cs := sc 0) zero24 sc_zero ?_
  intro g3 w3 H
  refine H.loadAll 2 rfl agg24 size24 ?_
  refine H.loadAll 1 rfl agg24 size24 ?_
  refine call_fn (c158 a b (lessN a b) 161 (fun x y => x &&& (18446744073709551615 - y)) (fun x y hx _ => Nat.lt_of_le_of_lt Nat.and_le_left hx) (fun i _ => word_less ha b i) c161 _) ?_
  rintro v w4 ⟨rfl, hk⟩
  have H := H.same hk
  refine H.storeAll 0 rfl size24 rfl (sc_one _) ?_
  intro w5 H
  refine H.loadAll 0 rfl agg24 size24 ?_
  exact ⟨rfl, rfl, H.keeps⟩

/-- Has. -/
def hasI (n : Nat) (p : Int) : Bool := mayB p && n.testBit p.toNat
theorem word_bit (n p : Nat) : decide ((0 : Int) < ((word n (p / 64) &&& 2 ^ (p % 64) : Nat) : Int)) = n.testBit p := by
  have e : 64 * (p / 64) + p % 64 = p := by omega
  have hb : (word n (p / 64)).testBit (p % 64) = n.testBit p := by
    rw [testBit_word, e]; have : p % 64 < 64 := by omega
    simp [this]
  rw [← hb]
  by_cases h : (word n (p / 64)).testBit (p % 64) = true
  · rw [h]
    have : word n (p / 64) &&& 2 ^ (p % 64) ≠ 0 := by
      intro hz
      have := congrArg (fun x => Nat.testBit x (p % 64)) hz
      simp [Nat.testBit_and, h, Nat.testBit_two_pow_self] at this
    simp; omega
  · simp only [Bool.not_eq_true] at h
    rw [h]
    have : word n (p / 64) &&& 2 ^ (p % 64) = 0 := by
      apply Nat.eq_of_testBit_eq; intro j
      rw [Nat.testBit_and, Nat.testBit_two_pow, Nat.zero_testBit]
      by_cases hj : p % 64 = j
      · subst hj; simp [h]
      · simp [hj]
    simp [this]
theorem ent44 : enters Try.prog 44 = true := by kernel_rfl
theorem c44_yes (n p : Nat) (hp : p < 256) (w : World) : Fun Try.prog 44 [sv n, .int .i64 (p : Int)] w fun v w' => v = .bool (n.testBit p) ∧ Same w w' := by
  refine fun_of_W (N := 21) Try.func44 ent44 rfl rfl rfl (by simp) ?_
  have H := Hp.start0 w
  refine H.box 24 (sv n) (cs := sc n) rfl ?_
  intro g1 w1 H
  refine call_fn (c156 _ _) ?_
  rintro v w2' ⟨rfl, rfl⟩
  refine cond_no (by simp [mayB]; omega) ?_
  refine call_fn (c157 p hp _) ?_
  rintro v w3 ⟨rfl, hk⟩
  have H := H.same hk
  refine idxAddr_arr Try.underlying24 size22 (p / 64) rfl (by omega) (o' := p / 64) (by omega) ?_
  refine H.load 0 rfl agg22 (sc_get n (p / 64) (by omega)) ?_
  refine bin_and_u64 (word_lt _ _) ?_ ?_
  · have : 2 ^ (p % 64) < 2 ^ 64 := Nat.pow_lt_pow_right (by decide) (by omega)
    omega
  exact ⟨congrArg Value.bool (word_bit n p), H.keeps⟩
theorem c44_no (n : Nat) (p : Int) (hp : mayB p = false) (w : World) : Fun Try.prog 44 [sv n, .int .i64 p] w fun v w' => v = .bool false ∧ Same w w' := by
  refine fun_of_W (N := 21) Try.func44 ent44 rfl rfl rfl (by simp) ?_
  have H := Hp.start0 w
  refine H.box 24 (sv n) (cs := sc n) rfl ?_
  intro g1 w1 H
  refine call_fn (c156 _ _) ?_
  rintro v w2' ⟨rfl, rfl⟩
  refine cond_yes (by simp [hp]) ?_
  exact ⟨rfl, H.keeps⟩
theorem c44 (n : Nat) (p : Int) (w : World) : Fun Try.prog 44 [sv n, .int .i64 p] w fun v w' => v = .bool (hasI n p) ∧ Same w w' := by
  cases h : mayB p with
  | true =>
    have h' : 0 ≤ p ∧ p < 256 := by simpa [mayB] using h
    obtain ⟨q, rfl⟩ := Int.eq_ofNat_of_zero_le h'.1
    have := c44_yes n q (by omega) w
    simpa [hasI, h] using this
  | false => simpa [hasI, h] using c44_no n p h w

/-! ### List -/
theorem T32 : SlT Try.prog 32 3 (.int .i64 0) 1 8 := ⟨Try.underlying32, by kernel_rfl, rfl, by decide⟩
theorem agg3 : aggT Try.prog 3 = some false := by kernel_rfl
theorem size3 : sizeT Try.prog 3 = some 1 := by kernel_rfl
/-- Numbers as cells. -/
def ints (l : List Nat) : List Value := l.map fun (p : Nat) => Value.int .i64 (p : Int)
theorem ints_length (l : List Nat) : (ints l).length = l.length := by simp [ints]
theorem ints_get {l : List Nat} {i : Nat} (hi : i < l.length) : (ints l)[i]? = some (.int .i64 (l[i] : Int)) := by simp [ints, hi]

theorem ent41 : enters Try.prog 41 = true := by kernel_rfl
theorem c41 (n : Nat) (w : World) : Fun Try.prog 41 [sv n] w fun v w' => ∃ A c, v = .slice A (pts n).length c ∧ NewR w w' (own 3 1 (.slice A (pts n).length c) (pts n).length (ints (pts n))) := by
  refine fun_of_W (N := 17) Try.func41 ent41 rfl rfl rfl (by simp) ?_
  have H := Hp.start0 w
  refine H.box 24 (sv n) (cs := sc n) rfl ?_
  intro g1 w1 H
  have H := H.ownNil 3 1
  refine loop_rule (γ := Nat × Option Addr × Nat) _ rfl (fun (i, A, c) => [(5, .int .i64 (i : Int)), (3, .slice A (bitsBelow n i).length c)])
    (fun (i, A, c) w' => i ≤ 256 ∧ Hp w (fun _ => False) w' [own 3 1 (.slice A (bitsBelow n i).length c) (bitsBelow n i).length (ints (bitsBelow n i)), blk g1 24 (sc n)] [])
    (fun (i, _, _) => 256 - i) (0, none, 0) ⟨rfl, rfl, trivial⟩ ⟨by decide, H⟩ ?_
  clear H
  rintro ⟨i, A, c⟩ u w2 ⟨hi, H⟩
  refine cond_split (fun h => ?_) (fun h => ?_)
  · have hi4 : i < 256 := by have := of_decide_eq_true h; omega
    refine H.loadAll 1 rfl agg24 size24 ?_
    refine call_fn (c44_yes n i hi4 _) ?_
    rintro v w3 ⟨rfl, hk⟩
    have H := H.same hk
    have hl := bitsBelow_le n i
    refine cond_split (fun hb => ?_) (fun hb => ?_)
    · refine H.buildOne T32 rfl ?_
      intro g2 w4 H
      refine H.appendOne 0 T32 rfl rfl (by omega) (by omega) ?_
      intro A' c' w5 H
      have e : bitsBelow n (i + 1) = bitsBelow n i ++ [i] := by rw [bitsBelow_succ, if_pos hb]
      have e1 : (bitsBelow n (i + 1)).length = (bitsBelow n i).length + 1 := by rw [e]; simp
      have e2 : ints (bitsBelow n (i + 1)) = ints (bitsBelow n i) ++ [.int .i64 (i : Int)] := by rw [e]; simp [ints]
      refine ⟨(i + 1, A', c'), by show 256 - (i + 1) < 256 - i; omega, ⟨congrArg (Value.int .i64) (wrap_i64_in (by omega) (by omega)), by rw [e1]; rfl, trivial⟩, by show i + 1 ≤ 256; omega, ?_⟩
      show Hp w _ _ [own 3 1 (.slice A' (bitsBelow n (i + 1)).length c') (bitsBelow n (i + 1)).length (ints (bitsBelow n (i + 1))), _] []
      rw [e1, e2]
      exact H
    · have e : bitsBelow n (i + 1) = bitsBelow n i := by rw [bitsBelow_succ, hb]; simp
      refine ⟨(i + 1, A, c), by show 256 - (i + 1) < 256 - i; omega, ⟨congrArg (Value.int .i64) (wrap_i64_in (by omega) (by omega)), by rw [e]; rfl, trivial⟩, by show i + 1 ≤ 256; omega, ?_⟩
      show Hp w _ _ [own 3 1 (.slice A (bitsBelow n (i + 1)).length c) (bitsBelow n (i + 1)).length (ints (bitsBelow n (i + 1))), _] []
      rw [e]
      exact H
  · have hi4 : i = 256 := by have := of_decide_eq_false h; omega
    subst hi4
    exact ⟨A, c, rfl, H.out⟩

theorem run_part {P : Program} {t : TypeId} (h : aggT P t = some false) {cs : Array Value} {o : Nat} {v : Value} (hv : cs[o]? = some v) (w : World) : (part t cs o).run P w = .ok v w := by
  simp [part, run_isAgg h, hv]
theorem run_eqInt {P : Program} {t : TypeId} {k : IntKind} (h : P.underlying t = some (.int k)) (d : Nat) (a b : Int) (w : World) : (Op.equalIn (d + 1) t (.int k a) (.int k b)).run P w = .ok (a == b) w := by
  simp [Op.equalIn, run_underlying h]
theorem egt24 : Try.prog.eqGuardType Try.prog.depth 24 = false := by kernel_rfl
theorem run_eq24 (a b : Nat) (ha : a < 2 ^ 256) (hb : b < 2 ^ 256) (w : World) : (Op.equal 24 (sv a) (sv b)).run Try.prog w = .ok (a == b) w := by
  have hp : ∀ (n i : Nat), i < 4 → ∀ w, (part 22 (sc n) i).run Try.prog w = .ok (.int .u64 (word n i : Int)) w := fun n i hi w => run_part agg22 (sc_get n i hi) w
  have he : (a == b) = ((word a 0 : Int) == (word b 0 : Int) && ((word a 1 : Int) == (word b 1 : Int) && ((word a 2 : Int) == (word b 2 : Int) && (word a 3 : Int) == (word b 3 : Int)))) := by
    rw [Bool.eq_iff_iff]
    simp only [beq_iff_eq, Bool.and_eq_true, Int.natCast_inj]
    constructor
    · rintro rfl; simp
    · rintro ⟨h0, h1, h2, h3⟩
      refine word_ext ha hb fun i hi => ?_
      match i, hi with
      | 0, _ => exact h0
      | 1, _ => exact h1
      | 2, _ => exact h2
      | 3, _ => exact h3
  have hr : ∀ d, (Op.equalIn (d + 2) 24 (.agg (sc a)) (.agg (sc b))).run Try.prog w = .ok (a == b) w := by
    intro d
    rw [he]
    rw [Op.equalIn]
    simp only [Sem.run_bind, run_underlying Try.underlying24, Result.andThen_ok, Go.Dk.run_sizeOf size22]
    have i0 := run_eqInt Try.underlying22 d (word a 0 : Int) (word b 0 : Int)
    have i1 := run_eqInt Try.underlying22 d (word a 1 : Int) (word b 1 : Int)
    have i2 := run_eqInt Try.underlying22 d (word a 2 : Int) (word b 2 : Int)
    have i3 := run_eqInt Try.underlying22 d (word a 3 : Int) (word b 3 : Int)
    generalize ((word a 0 : Int) == (word b 0 : Int)) = b0 at *
    generalize ((word a 1 : Int) == (word b 1 : Int)) = b1 at *
    generalize ((word a 2 : Int) == (word b 2 : Int)) = b2 at *
    generalize ((word a 3 : Int) == (word b 3 : Int)) = b3 at *
    cases b0 <;> cases b1 <;> cases b2 <;> cases b3 <;>
      simp [Std.Legacy.Range.forIn_eq_forIn_range', List.range', hp, i0, i1, i2, i3, Std.Legacy.Range.size]
  have := hr 9998
  exact this

theorem bin_eql24 {a b : Nat} (ha : a < 2 ^ 256) (hb : b < 2 ^ 256) {xo yo : Operand} {w : World} {kk : Value → World → Prop} (h : kk (.bool (a == b)) w) : binK Try.prog .eql 24 xo yo (sv a) (sv b) w kk :=
  bin_eql_agg egt24 (run_eq24 a b ha hb) h
theorem bin_neq24 {a b : Nat} (ha : a < 2 ^ 256) (hb : b < 2 ^ 256) {xo yo : Operand} {w : World} {kk : Value → World → Prop} (h : kk (.bool (a != b)) w) : binK Try.prog .neq 24 xo yo (sv a) (sv b) w kk :=
  bin_neq_agg egt24 (run_eq24 a b ha hb) h
theorem build24 {w : World} {kk : Value → World → Prop} (h : kk (sv 0) w) : buildK Try.prog 24 [] w kk := by
  refine build_by (v := .agg #[.int .u64 0, .int .u64 0, .int .u64 0, .int .u64 0]) (fun w => by kernel_rfl) ?_
  rw [sc_zero]; exact h

theorem ent53 : enters Try.prog 53 = true := by kernel_rfl
theorem c53 (a b : Nat) (ha : a < 2 ^ 256) (w : World) : Fun Try.prog 53 [sv a, sv b] w fun v w' => v = .bool (lessN a b == 0) ∧ Same w w' := by
  refine fun_of_W (N := 10) Try.func53 ent53 rfl rfl rfl (by simp) ?_
  have H := Hp.start0 w
  refine H.box 24 (sv a) (cs := sc a) rfl ?_
  intro g1 w1 H
  refine H.box 24 (sv b) (cs := sc b) rfl ?_
  intro g2 w2 H
  refine H.loadAll 1 rfl agg24 size24 ?_
  refine H.loadAll 0 rfl agg24 size24 ?_
  refine call_fn (c52 a b ha _) ?_
  rintro v w4 ⟨rfl, hk⟩
  have H := H.same hk
  refine build24 ?_
  refine bin_eql24 (lessN_lt _ _) (by decide) ?_
  exact ⟨rfl, H.keeps⟩

theorem idx_arr22 {n i : Nat} (hi : i < 4) {w : World} {kk : Value → World → Prop} (h : kk (.int .u64 (word n i : Int)) w) : idxK Try.prog 24 (sv n) (.int .i64 (i : Int)) w kk := by
  unfold idxK
  refine ⟨_, w, ?_, h⟩
  simp only [sv, Instr.index, asIntOf, pure_bind, Sem.run_bind, run_underlying Try.underlying24, Result.andThen_ok]
  rw [if_pos ⟨by omega, by omega⟩]
  simp only [Sem.run_bind, Go.Dk.run_sizeOf size22, Result.andThen_ok, Int.toNat_natCast, Nat.mul_one]
  exact run_part agg22 (sc_get n i hi) w

theorem popc_words {n : Nat} (hn : n < 2 ^ 256) : popc (word n 0) + popc (word n 1) + popc (word n 2) + popc (word n 3) = popc n := by
  have e0 : word n 0 = n % 2 ^ 64 := by simp [word]
  have e1 : word n 1 = n / 2 ^ 64 % 2 ^ 64 := rfl
  have e2 : word n 2 = n / 2 ^ 64 / 2 ^ 64 % 2 ^ 64 := by rw [Nat.div_div_eq_div_mul]; rfl
  have e3 : word n 3 = n / 2 ^ 64 / 2 ^ 64 / 2 ^ 64 := by
    rw [Nat.div_div_eq_div_mul, Nat.div_div_eq_div_mul]
    show n / 2 ^ (64 * 3) % 2 ^ 64 = _
    exact Nat.mod_eq_of_lt (Nat.div_lt_of_lt_mul (by simpa using hn))
  rw [popc_split n 64, popc_split (n / 2 ^ 64) 64, popc_split (n / 2 ^ 64 / 2 ^ 64) 64, e0, e1, e2, e3]
  have : n / 2 ^ 64 / 2 ^ 64 / 2 ^ 64 < 2 ^ 64 := by rw [← e3]; exact Nat.mod_lt _ (by decide)
  omega
theorem popc_le (k : Nat) : ∀ n, n < 2 ^ k → popc n ≤ k := by
  induction k with
  | zero => intro n h; have : n = 0 := by simpa using h
            subst this; simp [popc_zero]
  | succ k ih =>
    intro n h
    rw [popc_step]
    have := ih (n / 2) (by rw [Nat.pow_succ] at h; omega)
    omega
def cnt (n i : Nat) : Nat := ((List.range i).map fun j => popc (word n j)).sum
theorem cnt_succ (n i : Nat) : cnt n (i + 1) = cnt n i + popc (word n i) := by simp [cnt, List.range_succ]
theorem cnt_le (n i : Nat) : cnt n i ≤ 64 * i := by
  induction i with
  | zero => simp [cnt]
  | succ i ih => rw [cnt_succ]; have := popc_le 64 (word n i) (word_lt n i); omega

theorem ent43 : enters Try.prog 43 = true := by kernel_rfl
theorem c43 (n : Nat) (hn : n < 2 ^ 256) (w : World) : Fun Try.prog 43 [sv n] w fun v w' => v = .int .i64 (popc n : Int) ∧ Same w w' := by
  refine fun_of_W (N := 20) Try.func43 ent43 rfl rfl rfl (by simp) ?_
  have H := Hp.start0 w
  refine H.box 24 (sv n) (cs := sc n) rfl ?_
  intro g1 w1 H
  refine H.loadAll 0 rfl agg24 size24 ?_
  refine loop_rule (γ := Nat) _ rfl (fun i => [(7, .int .i64 (i : Int)), (3, .int .i64 (cnt n i : Int))])
    (fun i w' => i ≤ 4 ∧ Hp w (fun _ => False) w' [blk g1 24 (sc n)] []) (fun i => 4 - i) 0 ⟨rfl, rfl, trivial⟩ ⟨by decide, H⟩ ?_
  clear H
  rintro i u w2 ⟨hi, H⟩
  refine cond_split (fun h => ?_) (fun h => ?_)
  · have hi4 : i < 4 := by have := of_decide_eq_true h; omega
    refine idx_arr22 hi4 ?_
    have hcl := cnt_le n i
    refine loop_rule (γ := Nat) _ rfl (fun x => [(5, .int .u64 (x : Int)), (3, .int .i64 ((cnt n i + (popc (word n i) - popc x) : Nat) : Int))])
      (fun x w' => x ≤ word n i ∧ popc x ≤ popc (word n i) ∧ Hp w (fun _ => False) w' [blk g1 24 (sc n)] []) (fun x => x) (word n i) ⟨rfl, by show Value.int .i64 _ = _; simp, trivial⟩ ⟨by omega, by omega, H⟩ ?_
    clear H
    rintro x u2 w3 ⟨hx, hpx, H⟩
    have hwl := word_lt n i
    have hp64 := popc_le 64 (word n i) hwl
    refine cond_split (fun h => ?_) (fun h => ?_)
    · have hx0 : 0 < x := by have := of_decide_eq_true h; omega
      have hstep := popc_and_pred (w := x) (by omega)
      refine bin_by_eq rfl (y' := ((x - 1 : Nat) : Int)) (by rw [wrap_u64_in (by omega) (by omega)]; omega) ?_
      refine bin_and_u64 (by omega) (by omega) ?_
      refine ⟨x &&& (x - 1), Nat.lt_of_le_of_lt Nat.and_le_right (by omega), ⟨rfl, congrArg (Value.int .i64) ?_, trivial⟩, Nat.le_trans Nat.and_le_left hx, by omega, H⟩
      rw [wrap_i64_in (by omega) (by omega)]; omega
    · have hx0 : x = 0 := by have := of_decide_eq_false h; omega
      subst hx0
      refine ⟨i + 1, by omega, ⟨congrArg (Value.int .i64) (wrap_i64_in (by omega) (by omega)), congrArg (Value.int .i64) ?_, trivial⟩, by omega, H⟩
      rw [cnt_succ, popc_zero]; rfl
  · have hi4 : i = 4 := by have := of_decide_eq_false h; omega
    subst hi4
    refine ⟨congrArg (Value.int .i64) ?_, H.keeps⟩
    rw [← popc_words hn]; simp [cnt, List.range_succ]; omega
end Go.Proofs.Ytjebpngdinbckaa
end

section
namespace Go.Proofs.Ytjebpngdinbckaa
open Go.Dk
attribute [local irreducible] IntKind.wrap

def halfI (n : Nat) (i : Int) (one : Bool) : Nat := if 0 ≤ i ∧ i < 8 then halfN n i.toNat one else 0
theorem ent49 : enters Try.prog 49 = true := by kernel_rfl
theorem c49_no (n : Nat) (i : Int) (one : Bool) (hi : i < 0 ∨ 8 ≤ i) (w : World) : Fun Try.prog 49 [sv n, .int .i64 i, .bool one] w fun v w' => v = sv 0 ∧ Same w w' := by
  refine fun_of_W (N := 36) Try.func49 ent49 rfl rfl rfl (by simp) ?_
  have H := Hp.start0 w
  refine H.box 24 (sv n) (cs := sc n) rfl ?_
  intro g1 w1 H
  refine H.alloc 24 (cs := sc 0) zero24 sc_zero ?_
  intro g2 w2 H
  refine H.alloc 24 (cs := sc 0) zero24 sc_zero ?_
  intro g3 w3 H
  refine cond_split (fun h => ?_) (fun h => ?_)
  · refine cond_yes h ?_
    refine cond_yes h ?_
    refine cond_yes rfl ?_
    refine H.loadAll 0 rfl agg24 size24 ?_
    refine H.storeAll 1 rfl size24 rfl (sc_one _) ?_
    intro w4 H
    refine H.loadAll 1 rfl agg24 size24 ?_
    exact ⟨rfl, rfl, H.keeps⟩
  · refine cond_no h ?_
    refine cond_no h ?_
    refine cond_yes (by simp at h ⊢; omega) ?_
    refine H.loadAll 0 rfl agg24 size24 ?_
    refine H.storeAll 1 rfl size24 rfl (sc_one _) ?_
    intro w4 H
    refine H.loadAll 1 rfl agg24 size24 ?_
    exact ⟨rfl, rfl, H.keeps⟩
theorem c49_yes (n i : Nat) (one : Bool) (hi : i < 8) (w : World) : Fun Try.prog 49 [sv n, .int .i64 (i : Int), .bool one] w fun v w' => v = sv (halfN n i one) ∧ Same w w' := by
  refine fun_of_W (N := 36) Try.func49 ent49 rfl rfl rfl (by simp) ?_
  have H := Hp.start0 w
  refine H.box 24 (sv n) (cs := sc n) rfl ?_
  intro g1 w1 H
  refine H.alloc 24 (cs := sc 0) zero24 sc_zero ?_
  intro g2 w2 H
  refine H.alloc 24 (cs := sc 0) zero24 sc_zero ?_
  intro g3 w3 H
  have hd : decide ((i : Int) < 0) = false := by simp
  refine cond_no hd ?_
  refine cond_no hd ?_
  refine cond_no hd ?_
  refine cond_no (by simp; omega) ?_
  refine H.loadAll 2 rfl agg24 size24 ?_
  refine call_fn (c41 n _) ?_
  rintro v w4 ⟨A, c, rfl, hn⟩
  have H := H.addNew hn
  refine len_sl Try.underlying32 ?_
  refine loop_rule (γ := Nat) _ rfl (fun j => [(20, .int .i64 (j : Int))])
    (fun j w' => j ≤ (pts n).length ∧ Hp w (fun _ => False) w' [own 3 1 (.slice A (pts n).length c) (pts n).length (ints (pts n)), blk g3 24 (sc (orAll (((pts n).take j).filter fun p => p.testBit i == one))), blk g2 24 (sc 0), blk g1 24 (sc n)] [])
    (fun j => (pts n).length - j) 0 ⟨rfl, trivial⟩ ⟨by omega, H⟩ ?_
  clear H hn
  rintro j u w5 ⟨hj, H⟩
  refine cond_split (fun h => ?_) (fun h => ?_)
  · have hjl : j < (pts n).length := by have := of_decide_eq_true h; omega
    obtain ⟨g, rfl⟩ := H.ownA 0 rfl (by omega)
    have hp : (pts n)[j] < 256 := (mem_bitsBelow.1 (List.getElem_mem hjl)).1
    have ht : (pts n).take (j + 1) = (pts n).take j ++ [(pts n)[j]] := (List.take_append_getElem hjl).symm
    refine idxAddr_sl Try.underlying32 size3 j rfl hjl (by omega) (o' := j) ?_
    refine H.loadOwn 0 rfl agg3 (ints_get hjl) ?_
    refine bin_shr_i64 (by omega) ?_
    refine bin_and_i64 (b := 1) (Nat.lt_of_le_of_lt (Nat.div_le_self _ _) (by omega)) (by omega) ?_
    refine bin_eql_bool Try.underlying4 ?_
    rw [testBit_and_one]
    refine cond_split (fun hb => ?_) (fun hb => ?_)
    · refine H.loadAll 1 rfl agg24 size24 ?_
      refine call_fn (c46_yes _ _ hp _) ?_
      rintro v w6 ⟨rfl, hk⟩
      have H := H.same hk
      refine H.storeAll 1 rfl size24 rfl (sc_one _) ?_
      intro w7 H
      refine ⟨j + 1, by omega, ⟨congrArg (Value.int .i64) (wrap_i64_in (by omega) (by have := bitsBelow_le n 256; simp only [pts] at hjl; omega)), trivial⟩, by omega, ?_⟩
      have e : ((pts n).take (j + 1)).filter (fun p => p.testBit i == one) = ((pts n).take j).filter (fun p => p.testBit i == one) ++ [(pts n)[j]] := by
        rw [ht, List.filter_append, List.filter_cons, hb, List.filter_nil]; rfl
      rw [e, orAll_snoc]
      exact H
    · refine ⟨j + 1, by omega, ⟨congrArg (Value.int .i64) (wrap_i64_in (by omega) (by have := bitsBelow_le n 256; simp only [pts] at hjl; omega)), trivial⟩, by omega, ?_⟩
      have e : ((pts n).take (j + 1)).filter (fun p => p.testBit i == one) = ((pts n).take j).filter (fun p => p.testBit i == one) := by
        rw [ht, List.filter_append, List.filter_cons, hb, List.filter_nil]; simp
      rw [e]
      exact H
  · have hjl : j = (pts n).length := by have := of_decide_eq_false h; omega
    subst hjl
    refine H.loadAll 1 rfl agg24 size24 ?_
    refine H.storeAll 2 rfl size24 rfl (sc_one _) ?_
    intro w6 H
    refine H.loadAll 2 rfl agg24 size24 ?_
    refine ⟨rfl, ?_, H.keeps⟩
    rw [List.take_length, ← halfN_eq]; rfl
theorem c49 (n : Nat) (i : Int) (one : Bool) (w : World) : Fun Try.prog 49 [sv n, .int .i64 i, .bool one] w fun v w' => v = sv (halfI n i one) ∧ Same w w' := by
  by_cases hi : 0 ≤ i ∧ i < 8
  · obtain ⟨q, rfl⟩ := Int.eq_ofNat_of_zero_le hi.1
    have := c49_yes n q one (by omega) w
    simpa [halfI, hi] using this
  · simpa [halfI, hi] using c49_no n i one (by omega) w

theorem ent37 : enters Try.prog 37 = true := by kernel_rfl
theorem c37_no (n : Int) (hn : n < 0 ∨ 8 < n) (w : World) : Fun Try.prog 37 [.int .i64 n] w fun v w' => v = .tuple #[sv 0, .int .i64 1] ∧ Same w w' := by
  refine fun_of_W (N := 23) Try.func37 ent37 rfl rfl rfl (by simp) ?_
  have H := Hp.start0 w
  refine H.alloc 24 (cs := sc 0) zero24 sc_zero ?_
  intro g1 w1 H
  refine cond_split (fun h => ?_) (fun h => ?_)
  · refine cond_yes h ?_
    refine cond_yes h ?_
    refine cond_yes rfl ?_
    refine build24 ?_
    refine H.storeAll 0 rfl size24 rfl (sc_one _) ?_
    intro w4 H
    refine H.loadAll 0 rfl agg24 size24 ?_
    exact ⟨rfl, rfl, H.keeps⟩
  · refine cond_no h ?_
    refine cond_no h ?_
    refine cond_yes (by simp at h ⊢; omega) ?_
    refine build24 ?_
    refine H.storeAll 0 rfl size24 rfl (sc_one _) ?_
    intro w4 H
    refine H.loadAll 0 rfl agg24 size24 ?_
    exact ⟨rfl, rfl, H.keeps⟩
theorem c37_yes (n : Nat) (hn : n ≤ 8) (w : World) : Fun Try.prog 37 [.int .i64 (n : Int)] w fun v w' => v = .tuple #[sv (allN n), .int .i64 0] ∧ Same w w' := by
  refine fun_of_W (N := 23) Try.func37 ent37 rfl rfl rfl (by simp) ?_
  have H := Hp.start0 w
  refine H.alloc 24 (cs := sc 0) zero24 sc_zero ?_
  intro g1 w1 H
  have hd : decide ((n : Int) < 0) = false := by simp
  refine cond_no hd ?_
  refine cond_no hd ?_
  refine cond_no hd ?_
  refine cond_no (by simp; omega) ?_
  refine H.alloc 24 (cs := sc 0) zero24 sc_zero ?_
  intro g2 w2 H
  have h2 : 2 ^ n ≤ 2 ^ 8 := Nat.pow_le_pow_right (by decide) hn
  refine bin_shl_i64 (x := 1) (n := n) (by omega) (by omega) ?_
  rw [Nat.one_mul]
  refine loop_rule (γ := Nat) _ rfl (fun j => [(15, .int .i64 (j : Int))])
    (fun j w' => j ≤ 2 ^ n ∧ Hp w (fun _ => False) w' [blk g2 24 (sc (orAll (List.range j))), blk g1 24 (sc 0)] [])
    (fun j => 2 ^ n - j) 0 ⟨rfl, trivial⟩ ⟨Nat.zero_le _, H⟩ ?_
  clear H
  rintro j u w5 ⟨hj, H⟩
  refine cond_split (fun h => ?_) (fun h => ?_)
  · have hjl : j < 2 ^ n := by have := of_decide_eq_true h; omega
    refine H.loadAll 0 rfl agg24 size24 ?_
    refine call_fn (c46_yes _ j (by omega) _) ?_
    rintro v w6 ⟨rfl, hk⟩
    have H := H.same hk
    refine H.storeAll 0 rfl size24 rfl (sc_one _) ?_
    intro w7 H
    refine ⟨j + 1, by omega, ⟨congrArg (Value.int .i64) (wrap_i64_in (by omega) (by omega)), trivial⟩, by omega, ?_⟩
    rw [List.range_succ, orAll_snoc]
    exact H
  · have hjl : j = 2 ^ n := by have := of_decide_eq_false h; omega
    subst hjl
    refine H.loadAll 0 rfl agg24 size24 ?_
    refine H.storeAll 1 rfl size24 rfl (sc_one _) ?_
    intro w6 H
    refine H.loadAll 1 rfl agg24 size24 ?_
    refine ⟨rfl, ?_, H.keeps⟩
    rw [allN_eq n hn]; rfl
end Go.Proofs.Ytjebpngdinbckaa
end

section
/- The references of chapter 1. -/
namespace Go.Proofs.Ytjebpngdinbckaa
open Go.Dk
attribute [local irreducible] IntKind.wrap

/-- The round's end of a counting loop. -/
theorem up {i : Nat} (hi : i < 4611686018427387904) : Value.int .i64 (IntKind.i64.wrap ((i : Int) + 1)) = Value.int .i64 ((i + 1 : Nat) : Int) :=
  congrArg (Value.int .i64) (wrap_i64_in (by omega) (by omega))

theorem ent155 : enters Try.prog 155 = true := by kernel_rfl
theorem c155 (n : Nat) (hn : n ≤ 63) (w : World) : Fun Try.prog 155 [.int .i64 (n : Int)] w fun v w' => v = .int .u64 ((2 ^ n : Nat) : Int) ∧ Same w w' := by
  refine fun_of_W (N := 13) Try.func155 ent155 rfl rfl rfl (by simp) ?_
  refine loop_rule (γ := Nat) _ rfl (fun i => [(4, .int .i64 (i : Int)), (3, .int .u64 ((2 ^ i : Nat) : Int))]) (fun i w' => i ≤ n ∧ w' = w) (fun i => n - i) 0 ⟨rfl, rfl, trivial⟩ ⟨by omega, rfl⟩ ?_
  rintro i u w' ⟨hi, rfl⟩
  refine cond_split (fun h => ?_) (fun h => ?_)
  · have hlt : i < n := by have := of_decide_eq_true h; omega
    refine ⟨i + 1, by omega, ⟨up (by omega), congrArg (Value.int .u64) ?_, trivial⟩, by omega, rfl⟩
    have h1 : 2 ^ (i + 1) ≤ 2 ^ 63 := Nat.pow_le_pow_right (by decide) (by omega)
    have h2 : 2 ^ (i + 1) = 2 ^ i * 2 := Nat.pow_succ ..
    rw [h2] at h1 ⊢
    generalize 2 ^ i = q at *
    rw [wrap_u64_in (by omega) (by omega)]; omega
  · have : i = n := by have := of_decide_eq_false h; omega
    subst this
    exact ⟨rfl, Keeps.refl _ _⟩

theorem ent48 : enters Try.prog 48 = true := by kernel_rfl
theorem c48 (p i : Nat) (hp : p < 9223372036854775808) (hi : i ≤ 62) (w : World) : Fun Try.prog 48 [.int .i64 (p : Int), .int .i64 (i : Int)] w fun v w' => v = .int .i64 ((p / 2 ^ i % 2 : Nat) : Int) ∧ Same w w' := by
  refine fun_of_W (N := 11) Try.func48 ent48 rfl rfl rfl (by simp) ?_
  refine call_fn (c155 i (by omega) _) ?_
  rintro v w1 ⟨rfl, hk⟩
  have h1 : 2 ^ i ≤ 2 ^ 62 := Nat.pow_le_pow_right (by decide) hi
  have h2 : 0 < 2 ^ i := Nat.two_pow_pos i
  refine conv_int (by kernel_rfl) Try.underlying3 ?_
  rw [wrap_i64_in (by omega) (by omega)]
  refine bin_quo_i64 (by omega) (by omega) (by omega) ?_
  refine bin_rem_i64 (Int.ediv_nonneg (by omega) (by omega)) (by omega) ?_
  exact ⟨congrArg (Value.int .i64) (by simp), hk⟩

/-! ### Flags -/
theorem T29 : SlT Try.prog 29 4 (.bool false) 1 1 := ⟨Try.underlying29, by kernel_rfl, rfl, by decide⟩
theorem agg4 : aggT Try.prog 4 = some false := by kernel_rfl
theorem size4 : sizeT Try.prog 4 = some 1 := by kernel_rfl
def bls (l : List Bool) : List Value := l.map Value.bool
theorem bls_get {l : List Bool} {i : Nat} (hi : i < l.length) : (bls l)[i]? = some (.bool l[i]) := by simp [bls, hi]
/-- The flags of a set, below k. -/
def flagsTo (n k : Nat) : List Bool := (List.range k).map fun p => n.testBit p
abbrev flagsN (n : Nat) : List Bool := flagsTo n 256
theorem flagsTo_length (n k : Nat) : (flagsTo n k).length = k := by simp [flagsTo]
theorem flagsTo_succ (n k : Nat) : flagsTo n (k + 1) = flagsTo n k ++ [n.testBit k] := by simp [flagsTo, List.range_succ]
theorem flagsN_get {n p : Nat} (hp : p < 256) : (bls (flagsN n))[p]? = some (.bool (n.testBit p)) := by simp [bls, flagsN, flagsTo, hp]

theorem div_pow_mod (a k : Nat) : decide (((a / 2 ^ k % 2 : Nat) : Int) = 1) = a.testBit k := by
  rw [Nat.testBit_eq_decide_div_mod_eq]
  generalize a / 2 ^ k = q
  rw [Bool.eq_iff_iff, decide_eq_true_eq, decide_eq_true_eq]; omega
theorem bin_rem_u64 {x y : Nat} (hy : 0 < y) {t : TypeId} {xo yo : Operand} {w : World} {kk : Value → World → Prop} {P : Program} (h : kk (.int .u64 ((x % y : Nat) : Int)) w) : binK P .rem t xo yo (.int .u64 (x : Int)) (.int .u64 (y : Int)) w kk :=
  bin_rem (by omega) (by rw [Int.tmod_eq_emod_of_nonneg (by omega)]; simpa using h)
theorem bin_quo_u64 {x y : Nat} (hx : x < 18446744073709551616) (hy : 0 < y) {t : TypeId} {xo yo : Operand} {w : World} {kk : Value → World → Prop} {P : Program} (h : kk (.int .u64 ((x / y : Nat) : Int)) w) : binK P .quo t xo yo (.int .u64 (x : Int)) (.int .u64 (y : Int)) w kk :=
  bin_quo (by omega) (by
    rw [Int.tdiv_eq_ediv_of_nonneg (by omega), wrap_u64_in (Int.ediv_nonneg (by omega) (by omega)) (by
      have : ((x / y : Nat) : Int) = (x : Int) / y := by simp
      have h2 : x / y ≤ x := Nat.div_le_self x y
      omega)]
    simpa using h)

theorem ent40 : enters Try.prog 40 = true := by kernel_rfl
theorem c40 (n : Nat) (w : World) : Fun Try.prog 40 [sv n] w fun v w' => ∃ A c, v = .slice A 256 c ∧ NewR w w' (own 4 1 (.slice A 256 c) 256 (bls (flagsN n))) := by
  refine fun_of_W (N := 27) Try.func40 ent40 rfl rfl rfl (by simp) ?_
  have H := Hp.start0 w
  refine H.box 24 (sv n) (cs := sc n) rfl ?_
  intro g1 w1 H
  have H := H.ownNil 4 1
  refine loop_rule (γ := Nat × Option Addr × Nat) _ rfl (fun (i, A, c) => [(4, .int .i64 (i : Int)), (3, .slice A (64 * i) c)])
    (fun (i, A, c) w' => i ≤ 4 ∧ Hp w (fun _ => False) w' [own 4 1 (.slice A (64 * i) c) (64 * i) (bls (flagsTo n (64 * i))), blk g1 24 (sc n)] [])
    (fun (i, _, _) => 4 - i) (0, none, 0) ⟨rfl, rfl, trivial⟩ ⟨by decide, H⟩ ?_
  clear H
  rintro ⟨i, A, c⟩ u w2 ⟨hi, H⟩
  refine cond_split (fun h => ?_) (fun h => ?_)
  · have hi4 : i < 4 := by have := of_decide_eq_true h; omega
    refine idxAddr_arr Try.underlying24 size22 i rfl hi4 (o' := i) (by omega) ?_
    refine H.load 1 rfl agg22 (sc_get n i hi4) ?_
    refine loop_rule (γ := Nat × Option Addr × Nat) _ rfl (fun (k, A, c) => [(6, .int .i64 (k : Int)), (5, .int .u64 ((word n i / 2 ^ k : Nat) : Int)), (3, .slice A (64 * i + k) c)])
      (fun (k, A, c) w' => k ≤ 64 ∧ Hp w (fun _ => False) w' [own 4 1 (.slice A (64 * i + k) c) (64 * i + k) (bls (flagsTo n (64 * i + k))), blk g1 24 (sc n)] [])
      (fun (k, _, _) => 64 - k) (0, A, c) ⟨rfl, by show Value.int .u64 _ = _; simp, rfl, trivial⟩ ⟨by decide, H⟩ ?_
    clear H
    rintro ⟨k, A, c⟩ u2 w3 ⟨hk, H⟩
    refine cond_split (fun h => ?_) (fun h => ?_)
    · have hk4 : k < 64 := by have := of_decide_eq_true h; omega
      refine bin_rem_u64 (y := 2) (by omega) ?_
      have hb : (word n i / 2 ^ k % 2 : Nat) = 1 ↔ n.testBit (64 * i + k) = true := by
        have := testBit_word n i k
        rw [Nat.testBit_eq_decide_div_mod_eq] at this
        simp [hk4] at this
        rw [← this]; simp
      have hbv : (((word n i / 2 ^ k % 2 : Nat) : Int) == (1 : Int)) = n.testBit (64 * i + k) := by
        rw [Bool.eq_iff_iff, ← hb, beq_iff_eq]; omega
      refine H.buildOne T29 rfl ?_
      intro g2 w4 H
      refine H.appendOne 0 T29 rfl rfl (by omega) (by omega) ?_
      intro A' c' w5 H
      refine bin_quo_u64 (y := 2) (Nat.lt_of_le_of_lt (Nat.div_le_self _ _) (word_lt n i)) (by omega) ?_
      refine ⟨(k + 1, A', c'), by show 64 - (k + 1) < 64 - k; omega, ⟨up (by omega), ?_, rfl, trivial⟩, by show k + 1 ≤ 64; omega, ?_⟩
      · refine congrArg (Value.int .u64) ?_
        rw [Nat.div_div_eq_div_mul, Nat.pow_succ]
      · rw [hbv] at H
        show Hp w _ _ [own 4 1 (.slice A' (64 * i + (k + 1)) c') (64 * i + (k + 1)) (bls (flagsTo n (64 * i + (k + 1)))), _] []
        rw [show 64 * i + (k + 1) = 64 * i + k + 1 from rfl, flagsTo_succ]
        simpa [bls] using H
    · have hk4 : k = 64 := by have := of_decide_eq_false h; omega
      subst hk4
      exact ⟨(i + 1, A, c), by show 4 - (i + 1) < 4 - i; omega, ⟨up (by omega), rfl, trivial⟩, by show i + 1 ≤ 4; omega, H⟩
  · have hi4 : i = 4 := by have := of_decide_eq_false h; omega
    subst hi4
    exact ⟨A, c, rfl, H.out⟩
end Go.Proofs.Ytjebpngdinbckaa
end

section
/- The references of chapter 1, on. -/
namespace Go.Proofs.Ytjebpngdinbckaa
open Go.Dk
attribute [local irreducible] IntKind.wrap

/-- The set of flags. -/
def ofFlags (l : List Bool) : Nat := setOf fun p => l.getD p false
/-- Of which the words below i, and k bits of word i, are there. -/
def part (l : List Bool) (m : Nat) : Nat := mkSet (fun p => l.getD p false) m
theorem word_part_other {l : List Bool} {i k j : Nat} (hk : k ≤ 64) (hj : j ≠ i) : word (part l (64 * i + k)) j = word (part l (64 * i)) j := by
  apply Nat.eq_of_testBit_eq; intro b
  simp only [testBit_word, part, testBit_mkSet]
  by_cases hb : b < 64
  · have : decide (64 * j + b < 64 * i + k) = decide (64 * j + b < 64 * i) := by rw [Bool.eq_iff_iff]; simp; omega
    rw [this]
  · simp [hb]
theorem word_part_self (l : List Bool) (i k : Nat) (hk : k < 64) : word (part l (64 * i + (k + 1))) i = word (part l (64 * i + k)) i + if l.getD (64 * i + k) false then 2 ^ k else 0 := by
  have e : part l (64 * i + (k + 1)) = part l (64 * i + k) + if l.getD (64 * i + k) false then 2 ^ (64 * i + k) else 0 := rfl
  rw [e]
  have hlt : part l (64 * i + k) < 2 ^ (64 * i + k) := mkSet_lt _ _
  have hd : part l (64 * i + k) / 2 ^ (64 * i) < 2 ^ k := by
    apply Nat.div_lt_of_lt_mul; rw [← Nat.pow_add]; exact hlt
  have h2 : 2 ^ (k + 1) ≤ 2 ^ 64 := Nat.pow_le_pow_right (by decide) (by omega)
  have h3 : 2 ^ (k + 1) = 2 ^ k * 2 := Nat.pow_succ ..
  unfold word
  split
  · have e2 : 2 ^ (64 * i + k) = 2 ^ k * 2 ^ (64 * i) := by rw [Nat.pow_add, Nat.mul_comm]
    rw [e2, Nat.add_mul_div_right _ _ (Nat.two_pow_pos _), Nat.mod_eq_of_lt (by omega), Nat.mod_eq_of_lt (by omega)]
  · simp
theorem part_full (l : List Bool) : part l 256 = ofFlags l := rfl

theorem ent38 : enters Try.prog 38 = true := by kernel_rfl
theorem c38 (l : List Bool) (hl : l.length = 256) (A : Option Addr) (c : Nat) (w : World) (hs : Sl w (.slice A 256 c) 1 256 (bls l)) : Fun Try.prog 38 [.slice A 256 c] w fun v w' => v = sv (ofFlags l) ∧ Same w w' := by
  refine fun_of_W (N := 30) Try.func38 ent38 rfl rfl rfl (by simp) ?_
  obtain ⟨g, o, rfl⟩ := hs.A (by omega)
  have H := Hp.start0 w
  refine H.alloc 24 (cs := sc 0) zero24 sc_zero ?_
  intro g1 w1 H
  refine H.alloc 24 (cs := sc 0) zero24 sc_zero ?_
  intro g2 w2 H
  refine loop_rule (γ := Nat) _ rfl (fun i => [(4, .int .i64 (i : Int))])
    (fun i w' => i ≤ 4 ∧ Hp w (fun _ => False) w' [blk g2 24 (sc (part l (64 * i))), blk g1 24 (sc 0)] []) (fun i => 4 - i) 0 ⟨rfl, trivial⟩ ⟨by decide, H⟩ ?_
  clear H
  rintro i u w3 ⟨hi, H⟩
  refine cond_split (fun h => ?_) (fun h => ?_)
  · have hi4 : i < 4 := by have := of_decide_eq_true h; omega
    refine loop_rule (γ := Nat) _ rfl (fun k => [(5, .int .i64 (k : Int))])
      (fun k w' => k ≤ 64 ∧ Hp w (fun _ => False) w' [blk g2 24 (sc (part l (64 * i + k))), blk g1 24 (sc 0)] []) (fun k => 64 - k) 0 ⟨rfl, trivial⟩ ⟨by decide, H⟩ ?_
    clear H
    rintro k u2 w4 ⟨hk, H⟩
    refine cond_split (fun h => ?_) (fun h => ?_)
    · have hk4 : k < 64 := by have := of_decide_eq_true h; omega
      have hlk : 64 * i + k < l.length := by omega
      have hgd : l.getD (64 * i + k) false = l[64 * i + k] := by simp [hlk]
      refine idxAddr_sl Try.underlying29 size4 (64 * i + k) ?_ (by omega) (o' := o + (64 * i + k)) (by omega) ?_
      · rw [wrap_i64_in (x := 64 * (i : Int)) (by omega) (by omega), wrap_i64_in (by omega) (by omega)]; omega
      refine H.loadSl hs agg4 _ rfl (bls_get hlk) ?_
      have hstep := word_part_self l i k hk4
      rw [hgd] at hstep
      refine cond_split (fun hb => ?_) (fun hb => ?_)
      · rw [hb] at hstep
        refine draw_mix (fun w' => Hp w (fun _ => False) w' [blk g2 24 (sc (part l (64 * i + k))), blk g1 24 (sc 0)] []) fol (by kernel_rfl) (H.same (Keeps.drew _)) ?_
        refine quiet (.pointer (some ⟨g2, i, none⟩)) (fun w _ => idxAddr_arr Try.underlying24 size22 i rfl hi4 (by omega) ⟨rfl, rfl⟩) ?_
        refine quiet (.int .u64 (word (part l (64 * i + k)) i : Int)) (fun w H => H.load 0 rfl agg22 (sc_get _ i hi4) ⟨rfl, rfl⟩) ?_
        refine call_fn (c155 k (by omega) _) ?_
        rintro v w6 ⟨rfl, hk⟩
        have H := (H.same (Keeps.drew _)).same hk
        refine ⟨.inl H, ?_⟩
        refine quiet (.pointer (some ⟨g2, i, none⟩)) (fun w _ => idxAddr_arr Try.underlying24 size22 i rfl hi4 (by omega) ⟨rfl, rfl⟩) ?_
        refine H.store 0 rfl size22 (by show i < 4; omega) rfl ?_
        intro w7 H
        refine ⟨.inr (by kernel_rfl), ?_⟩
        refine ⟨k + 1, by omega, ⟨up (by omega), trivial⟩, by omega, ?_⟩
        have e : (sc (part l (64 * i + k))).setIfInBounds i (.int .u64 (IntKind.u64.wrap ((word (part l (64 * i + k)) i : Int) + ((2 ^ k : Nat) : Int)))) = sc (part l (64 * i + (k + 1))) := by
          refine sc_ext (by simp [sc]) fun j hj => ?_
          by_cases hji : j = i
          · subst hji
            rw [Array.getElem?_setIfInBounds_self_of_lt (by show j < 4; omega), hstep]
            have h1 := word_lt (part l (64 * j + (k + 1))) j
            rw [hstep] at h1
            simp only [if_true] at h1 ⊢
            generalize 2 ^ k = q at *
            rw [wrap_u64_in (by omega) (by omega), Int.natCast_add]
          · rw [Array.getElem?_setIfInBounds_ne (Ne.symm hji), sc_get _ j hj, word_part_other (by omega) hji, word_part_other (by omega) hji]
        rw [← e]; exact H
      · rw [hb] at hstep
        have e : sc (part l (64 * i + (k + 1))) = sc (part l (64 * i + k)) := by
          refine (sc_ext rfl fun j hj => ?_).symm
          rw [sc_get _ j hj]
          by_cases hji : j = i
          · subst hji; rw [hstep]; simp
          · rw [word_part_other (by omega) hji, word_part_other (by omega) hji]
        refine ⟨k + 1, by omega, ⟨up (by omega), trivial⟩, by omega, ?_⟩
        rw [e]; exact H
    · have hk4 : k = 64 := by have := of_decide_eq_false h; omega
      subst hk4
      exact ⟨i + 1, by omega, ⟨up (by omega), trivial⟩, by omega, H⟩
  · have hi4 : i = 4 := by have := of_decide_eq_false h; omega
    subst hi4
    refine H.loadAll 0 rfl agg24 size24 ?_
    refine H.storeAll 1 rfl size24 rfl (sc_one _) ?_
    intro w6 H
    refine H.loadAll 1 rfl agg24 size24 ?_
    exact ⟨rfl, rfl, H.keeps⟩

theorem ent45 : enters Try.prog 45 = true := by kernel_rfl
theorem c45_yes (n p : Nat) (hp : p < 256) (w : World) : Fun Try.prog 45 [sv n, .int .i64 (p : Int)] w fun v w' => v = .bool (n.testBit p) ∧ Same w w' := by
  refine fun_of_W (N := 16) Try.func45 ent45 rfl rfl rfl (by simp) ?_
  have H := Hp.start0 w
  refine H.box 24 (sv n) (cs := sc n) rfl ?_
  intro g1 w1 H
  have hd : decide ((p : Int) < 0) = false := by simp
  refine cond_no hd ?_
  refine cond_no hd ?_
  refine cond_no hd ?_
  refine cond_no (by simp; omega) ?_
  refine H.loadAll 0 rfl agg24 size24 ?_
  refine call_fn (c40 n _) ?_
  rintro v w2 ⟨A, c, rfl, hn⟩
  have H := H.addNew hn
  obtain ⟨g, rfl⟩ := H.ownA 0 rfl (by omega)
  refine idxAddr_sl Try.underlying29 size4 p rfl hp (o' := p) (by omega) ?_
  refine H.loadOwn 0 rfl agg4 (flagsN_get hp) ?_
  exact ⟨rfl, H.keeps⟩
theorem c45_no (n : Nat) (p : Int) (hp : mayB p = false) (w : World) : Fun Try.prog 45 [sv n, .int .i64 p] w fun v w' => v = .bool false ∧ Same w w' := by
  refine fun_of_W (N := 16) Try.func45 ent45 rfl rfl rfl (by simp) ?_
  have H := Hp.start0 w
  refine H.box 24 (sv n) (cs := sc n) rfl ?_
  intro g1 w1 H
  have hp' : p < 0 ∨ 256 ≤ p := by simp [mayB] at hp; omega
  refine cond_split (fun h => ?_) (fun h => ?_)
  · refine cond_yes h ?_
    refine cond_yes h ?_
    refine cond_yes rfl ?_
    exact ⟨rfl, H.keeps⟩
  · refine cond_no h ?_
    refine cond_no h ?_
    refine cond_yes (by simp at h ⊢; omega) ?_
    exact ⟨rfl, H.keeps⟩
theorem c45 (n : Nat) (p : Int) (w : World) : Fun Try.prog 45 [sv n, .int .i64 p] w fun v w' => v = .bool (hasI n p) ∧ Same w w' := by
  cases h : mayB p with
  | true =>
    have h' : 0 ≤ p ∧ p < 256 := by simpa [mayB] using h
    obtain ⟨q, rfl⟩ := Int.eq_ofNat_of_zero_le h'.1
    have := c45_yes n q (by omega) w
    simpa [hasI, h] using this
  | false => simpa [hasI, h] using c45_no n p h w

/-- The flags of all points of n inputs. -/
def allFlags (n : Nat) : List Bool := (List.range 256).map fun p => decide (p < 2 ^ n)
def allTo (j : Nat) : List Bool := (List.range 256).map fun p => decide (p < j)
theorem allTo_zero : allTo 0 = List.replicate 256 false := by simp [allTo, List.map_const']
theorem allTo_succ {j : Nat} (_ : j < 256) : (allTo j).set j true = allTo (j + 1) := by
  apply List.ext_getElem (by simp [allTo])
  intro p h1 h2
  simp only [allTo, List.length_set, List.length_map, List.length_range] at h1
  rw [List.getElem_set]
  simp only [allTo, List.getElem_map, List.getElem_range]
  by_cases h : j = p
  · subst h; simp
  · simp [h]; omega
theorem madeBool (n : Nat) : (madeCells (Value.bool false).cells (n * 1)).toList = List.replicate n (.bool false) := by
  rw [Nat.mul_one]; exact toList_madeCells_one _ _

theorem ent39 : enters Try.prog 39 = true := by kernel_rfl
theorem c39 (n : Nat) (hn : n ≤ 8) (w : World) : Fun Try.prog 39 [.int .i64 (n : Int)] w fun v w' => ∃ A c, v = .slice A 256 c ∧ NewR w w' (own 4 1 (.slice A 256 c) 256 (bls (allFlags n))) := by
  refine fun_of_W (N := 17) Try.func39 ent39 rfl rfl rfl (by simp) ?_
  have H := Hp.start0 w
  refine H.make T29 256 rfl rfl (by omega) (by omega) ?_
  intro g w1 H
  rw [madeBool, show List.replicate 256 (Value.bool false) = bls (allTo 0) from by rw [allTo_zero]; exact List.map_replicate.symm] at H
  have h2 : 2 ^ n ≤ 2 ^ 8 := Nat.pow_le_pow_right (by decide) hn
  refine loop_rule (γ := Nat) _ rfl (fun j => [(4, .int .i64 (j : Int))])
    (fun j w' => j ≤ 2 ^ n ∧ Hp w (fun _ => False) w' [own 4 1 (.slice (some ⟨g, 0, none⟩) 256 256) 256 (bls (allTo j))] []) (fun j => 2 ^ n - j) 0 ⟨rfl, trivial⟩ ⟨Nat.zero_le _, H⟩ ?_
  clear H
  rintro j u w2 ⟨hj, H⟩
  refine conv_int (by kernel_rfl) Try.underlying22 ?_
  refine call_fn (c155 n (by omega) _) ?_
  rintro v w3 ⟨rfl, hk⟩
  have H := H.same hk
  rw [wrap_u64_in (by omega) (by omega)]
  refine cond_split (fun h => ?_) (fun h => ?_)
  · have hlt : j < 2 ^ n := by have := of_decide_eq_true h; omega
    refine idxAddr_sl Try.underlying29 size4 j rfl (by omega) (o' := j) (by omega) ?_
    refine H.storeOwn 0 rfl size4 (by rw [bls, List.length_map, allTo, List.length_map, List.length_range]; omega) rfl ?_
    intro w4 H
    refine ⟨j + 1, by omega, ⟨up (by omega), trivial⟩, by omega, ?_⟩
    rw [← allTo_succ (by omega), bls, List.map_set]
    exact H
  · have : j = 2 ^ n := by have := of_decide_eq_false h; omega
    subst this
    exact ⟨_, _, rfl, H.out⟩

theorem ent42 : enters Try.prog 42 = true := by kernel_rfl
theorem c42 (n : Nat) (w : World) : Fun Try.prog 42 [sv n] w fun v w' => ∃ A c, v = .slice A (pts n).length c ∧ NewR w w' (own 3 1 (.slice A (pts n).length c) (pts n).length (ints (pts n))) := by
  refine fun_of_W (N := 21) Try.func42 ent42 rfl rfl rfl (by simp) ?_
  have H := Hp.start0 w
  refine H.box 24 (sv n) (cs := sc n) rfl ?_
  intro g1 w1 H
  refine H.loadAll 0 rfl agg24 size24 ?_
  refine call_fn (c40 n _) ?_
  rintro v w2 ⟨A, c, rfl, hn⟩
  have H := H.addNew hn
  obtain ⟨g, rfl⟩ := H.ownA 0 rfl (by omega)
  have H := H.ownNil 3 1
  refine loop_rule (γ := Nat × Option Addr × Nat) _ rfl (fun (i, A, c) => [(5, .int .i64 (i : Int)), (4, .slice A (bitsBelow n i).length c)])
    (fun (i, A, d) w' => i ≤ 256 ∧ Hp w (fun _ => False) w' [own 3 1 (.slice A (bitsBelow n i).length d) (bitsBelow n i).length (ints (bitsBelow n i)), own 4 1 (.slice (some ⟨g, 0, none⟩) 256 c) 256 (bls (flagsN n)), blk g1 24 (sc n)] [])
    (fun (i, _, _) => 256 - i) (0, none, 0) ⟨rfl, rfl, trivial⟩ ⟨by decide, H⟩ ?_
  clear H hn
  rintro ⟨i, A, d⟩ u w2 ⟨hi, H⟩
  have hl := bitsBelow_le n i
  refine cond_split (fun h => ?_) (fun h => ?_)
  · have hi4 : i < 256 := by have := of_decide_eq_true h; omega
    refine idxAddr_sl Try.underlying29 size4 i rfl hi4 (o' := i) (by omega) ?_
    refine H.loadOwn 1 rfl agg4 (flagsN_get hi4) ?_
    refine cond_split (fun hb => ?_) (fun hb => ?_)
    · refine H.buildOne T32 rfl ?_
      intro g2 w4 H
      refine H.appendOne 0 T32 rfl rfl (by omega) (by omega) ?_
      intro A' c' w5 H
      have e : bitsBelow n (i + 1) = bitsBelow n i ++ [i] := by rw [bitsBelow_succ, if_pos hb]
      have e1 : (bitsBelow n (i + 1)).length = (bitsBelow n i).length + 1 := by rw [e]; simp
      have e2 : ints (bitsBelow n (i + 1)) = ints (bitsBelow n i) ++ [.int .i64 (i : Int)] := by rw [e]; simp [ints]
      refine ⟨(i + 1, A', c'), by show 256 - (i + 1) < 256 - i; omega, ⟨up (by omega), by rw [e1]; rfl, trivial⟩, by show i + 1 ≤ 256; omega, ?_⟩
      show Hp w _ _ [own 3 1 (.slice A' (bitsBelow n (i + 1)).length c') (bitsBelow n (i + 1)).length (ints (bitsBelow n (i + 1))), _, _] []
      rw [e1, e2]
      exact H
    · have e : bitsBelow n (i + 1) = bitsBelow n i := by rw [bitsBelow_succ, hb]; simp
      refine ⟨(i + 1, A, d), by show 256 - (i + 1) < 256 - i; omega, ⟨up (by omega), by rw [e]; rfl, trivial⟩, by show i + 1 ≤ 256; omega, ?_⟩
      show Hp w _ _ [own 3 1 (.slice A (bitsBelow n (i + 1)).length d) (bitsBelow n (i + 1)).length (ints (bitsBelow n (i + 1))), _, _] []
      rw [e]
      exact H
  · have hi4 : i = 256 := by have := of_decide_eq_false h; omega
    subst hi4
    exact ⟨A, d, rfl, H.out⟩

theorem ent54 : enters Try.prog 54 = true := by kernel_rfl
theorem lessN_zero {a b : Nat} (ha : a < 2 ^ 256) : (lessN a b == 0) = true ↔ ∀ p, p < 256 → ¬ (a.testBit p = true ∧ b.testBit p = false) := by
  rw [beq_iff_eq]
  constructor
  · intro h p hp hab
    have := testBit_lessN ha b p
    rw [h, hab.1, hab.2] at this; simp at this
  · intro h
    refine set_ext (lessN_lt _ _) (by decide) fun p hp => ?_
    rw [testBit_lessN ha, Nat.zero_testBit]
    have := h p hp
    cases h1 : a.testBit p <;> cases h2 : b.testBit p <;> simp_all
theorem c54 (a b : Nat) (ha : a < 2 ^ 256) (w : World) : Fun Try.prog 54 [sv a, sv b] w fun v w' => v = .bool (lessN a b == 0) ∧ Same w w' := by
  refine fun_of_W (N := 27) Try.func54 ent54 rfl rfl rfl (by simp) ?_
  have H := Hp.start0 w
  refine H.box 24 (sv a) (cs := sc a) rfl ?_
  intro g1 w1 H
  refine H.box 24 (sv b) (cs := sc b) rfl ?_
  intro g2 w2 H
  refine draw_mix (fun w' => Hp w (fun _ => False) w' [blk g2 24 (sc b), blk g1 24 (sc a)] []) fol (by kernel_rfl) (H.same (Keeps.drew _)) ?_
  refine quiet (sv a) (fun w H => H.loadAll 1 rfl agg24 size24 ⟨rfl, rfl⟩) ?_
  refine call_fn (c40 a _) ?_
  rintro v w3 ⟨A, c, rfl, hn⟩
  have H := (H.same (Keeps.drew _))
  refine ⟨.inl (H.same hn.keeps), ?_⟩
  have H := H.addNew hn
  refine quiet (sv b) (fun w H => H.loadAll 0 rfl agg24 size24 ⟨rfl, rfl⟩) ?_
  refine call_fn (c40 b _) ?_
  rintro v w4 ⟨A', c', rfl, hn'⟩
  refine ⟨.inl (H.forget.same hn'.keeps), ?_⟩
  have H := H.addNew hn'
  obtain ⟨g, rfl⟩ := H.ownA 0 rfl (by omega)
  obtain ⟨g', rfl⟩ := H.ownA 1 rfl (by omega)
  refine loop_rule (γ := Nat) _ rfl (fun i => [(7, .int .i64 (i : Int))])
    (fun i w' => (i ≤ 256 ∧ ∀ p, p < i → ¬ (a.testBit p = true ∧ b.testBit p = false)) ∧ Hp w (fun _ => False) w' [own 4 1 (.slice (some ⟨g, 0, none⟩) 256 c') 256 (bls (flagsN b)), own 4 1 (.slice (some ⟨g', 0, none⟩) 256 c) 256 (bls (flagsN a)), blk g2 24 (sc b), blk g1 24 (sc a)] [])
    (fun i => 256 - i) 0 ⟨rfl, trivial⟩ ⟨⟨by omega, by omega⟩, H⟩ ?_
  clear H hn hn'
  rintro i u w5 ⟨⟨hi, hall⟩, H⟩
  refine cond_split (fun h => ?_) (fun h => ?_)
  · have hi4 : i < 256 := by have := of_decide_eq_true h; omega
    refine idxAddr_sl Try.underlying29 size4 i rfl hi4 (o' := i) (by omega) ?_
    refine H.loadOwn 1 rfl agg4 (flagsN_get hi4) ?_
    have next : ¬ (a.testBit i = true ∧ b.testBit i = false) → ∀ p, p < i + 1 → ¬ (a.testBit p = true ∧ b.testBit p = false) := by
      intro hn p hp
      by_cases hpi : p = i
      · subst hpi; exact hn
      · exact hall p (by omega)
    refine cond_split (fun ht => ?_) (fun ht => ?_)
    · refine cond_yes ht ?_
      refine cond_yes ht ?_
      refine idxAddr_sl Try.underlying29 size4 i rfl hi4 (o' := i) (by omega) ?_
      refine cond_yes ht ?_
      refine H.loadOwn 0 rfl agg4 (flagsN_get hi4) ?_
      refine cond_yes ht ?_
      refine cond_yes ht ?_
      refine cond_split (fun hb => ?_) (fun hb => ?_)
      · have hb' : b.testBit i = false := by simpa using hb
        refine ⟨congrArg Value.bool ?_, H.keeps⟩
        symm
        rw [Bool.eq_false_iff]
        intro hz
        exact (lessN_zero ha).1 hz i hi4 ⟨ht, hb'⟩
      · exact ⟨i + 1, by omega, ⟨up (by omega), trivial⟩, ⟨by omega, next fun hh => by rw [hh.2] at hb; cases hb⟩, H⟩
    · refine cond_no ht ?_
      refine cond_no ht ?_
      refine cond_no ht ?_
      refine cond_no ht ?_
      refine cond_no ht ?_
      refine cond_no rfl ?_
      exact ⟨i + 1, by omega, ⟨up (by omega), trivial⟩, ⟨by omega, next fun hh => by rw [hh.1] at ht; cases ht⟩, H⟩
  · have hi4 : i = 256 := by have := of_decide_eq_false h; omega
    subst hi4
    refine ⟨congrArg Value.bool ?_, H.keeps⟩
    symm
    exact (lessN_zero ha).2 hall
end Go.Proofs.Ytjebpngdinbckaa
end

section
/- The references' own check, and plain laws of lists of answers. -/
namespace Go.Proofs.Ytjebpngdinbckaa
open Go.Dk
attribute [local irreducible] IntKind.wrap

theorem allN2 : allN 2 = 15 := by kernel_rfl
theorem half15 : halfN 15 0 true = 10 := by kernel_rfl
theorem pts10 : pts 10 = [1, 3] := by kernel_rfl
theorem popc15 : popc 15 = 4 := by simp [popc_step 15, popc_step 7, popc_step 3, popc_step 1, popc_zero]
theorem sv15 : Value.agg #[.int .u64 15, .int .u64 0, .int .u64 0, .int .u64 0] = sv 15 := by kernel_rfl
theorem svb : Value.agg #[.int .u64 0, .int .u64 1, .int .u64 0, .int .u64 0] = sv 18446744073709551616 := by kernel_rfl

theorem ent47 : enters Try.prog 47 = true := by kernel_rfl
theorem c47 (w : World) : Fun Try.prog 47 [] w fun v w' => v = .bool true ∧ Same w w' := by
  refine fun_of_W (N := 55) Try.func47 ent47 rfl rfl rfl (by simp) ?_
  have H := Hp.start0 w
  refine call_fn (c37_yes 2 (by omega) _) ?_
  rintro v w1 ⟨rfl, hk⟩
  have H := H.same hk
  rw [allN2]
  refine H.alloc 24 (cs := sc 0) zero24 sc_zero ?_
  intro g1 w2 H
  refine H.storeAll 0 rfl size24 rfl (sc_one _) ?_
  intro w3 H
  refine H.loadAll 0 rfl agg24 size24 ?_
  refine call_fn (c49_yes 15 0 true (by omega) _) ?_
  rintro v w4 ⟨rfl, hk⟩
  have H := H.same hk
  rw [half15]
  refine call_fn (c41 10 _) ?_
  rintro v w5 ⟨A, c, rfl, hn⟩
  rw [pts10] at hn ⊢
  have H := H.addNew hn
  obtain ⟨g, rfl⟩ := H.ownA 0 rfl (by decide)
  refine cond_yes rfl ?_
  refine H.loadAll 1 rfl agg24 size24 ?_
  refine cond_yes rfl ?_
  refine build_by (v := .agg #[.int .u64 15, .int .u64 0, .int .u64 0, .int .u64 0]) (fun w => by kernel_rfl) ?_
  rw [sv15]
  refine cond_yes rfl ?_
  refine bin_eql24 (by decide) (by decide) ?_
  rw [show ((15 : Nat) == 15) = true from rfl]
  repeat refine cond_yes rfl ?_
  refine len_sl Try.underlying32 ?_
  repeat refine cond_yes rfl ?_
  refine idxAddr_sl Try.underlying32 size3 0 rfl (by decide) (o' := 0) rfl ?_
  repeat refine cond_yes rfl ?_
  refine H.loadOwn 0 rfl agg3 (u := .int .i64 1) rfl ?_
  repeat refine cond_yes rfl ?_
  refine idxAddr_sl Try.underlying32 size3 1 rfl (by decide) (o' := 1) rfl ?_
  repeat refine cond_yes rfl ?_
  refine H.loadOwn 0 rfl agg3 (u := .int .i64 3) rfl ?_
  repeat refine cond_yes rfl ?_
  refine H.loadAll 1 rfl agg24 size24 ?_
  repeat refine cond_yes rfl ?_
  refine call_fn (c43 15 (by decide) _) ?_
  rintro v w6 ⟨rfl, hk⟩
  have H := H.same hk
  rw [popc15]
  repeat refine cond_yes rfl ?_
  refine H.loadAll 1 rfl agg24 size24 ?_
  repeat refine cond_yes rfl ?_
  refine call_fn (c44_yes 15 3 (by decide) _) ?_
  rintro v w7 ⟨rfl, hk⟩
  have H := H.same hk
  rw [show Nat.testBit 15 3 = true from rfl]
  repeat refine cond_yes rfl ?_
  refine H.loadAll 1 rfl agg24 size24 ?_
  repeat refine cond_yes rfl ?_
  refine call_fn (c44_yes 15 4 (by decide) _) ?_
  rintro v w8 ⟨rfl, hk⟩
  have H := H.same hk
  rw [show Nat.testBit 15 4 = false from rfl]
  repeat refine cond_yes rfl ?_
  refine build24 ?_
  repeat refine cond_yes rfl ?_
  refine call_fn (c46_yes 0 64 (by decide) _) ?_
  rintro v w9 ⟨rfl, hk⟩
  have H := H.same hk
  rw [show 0 ||| 2 ^ 64 = 18446744073709551616 from rfl]
  repeat refine cond_yes rfl ?_
  refine build_by (v := .agg #[.int .u64 0, .int .u64 1, .int .u64 0, .int .u64 0]) (fun w => by kernel_rfl) ?_
  rw [svb]
  repeat refine cond_yes rfl ?_
  refine bin_eql24 (by decide) (by decide) ?_
  rw [show ((18446744073709551616 : Nat) == 18446744073709551616) = true from rfl]
  repeat refine cond_yes rfl ?_
  exact ⟨rfl, H.keeps⟩

/-! ### SetPoints -/
theorem ent3 : enters Try.prog 3 = true := by kernel_rfl
theorem flags_set {n : Nat} (hn : n < 2 ^ 256) : ofFlags (flagsN n) = n := by
  refine set_ext (setOf_lt _) hn fun p hp => ?_
  rw [ofFlags, testBit_setOf]
  simp [hp, flagsTo]
theorem flags_all (n : Nat) : ofFlags (allFlags n) = allN n := by
  refine set_ext (setOf_lt _) (setOf_lt _) fun p hp => ?_
  rw [ofFlags, testBit_setOf, allN, testBit_setOf]
  simp [hp, allFlags]
theorem flags_with {n p : Nat} (hn : n < 2 ^ 256) (hp : p < 256) : ofFlags ((flagsN n).set p true) = n ||| 2 ^ p := by
  refine set_ext (setOf_lt _) (or_lt hn (Nat.pow_lt_pow_right (by decide) hp)) fun q hq => ?_
  rw [ofFlags, testBit_setOf, Nat.testBit_or, Nat.testBit_two_pow]
  have hlen : (flagsN n).length = 256 := flagsTo_length n 256
  rw [List.getD_eq_getElem?_getD, List.getElem?_set]
  by_cases h : p = q
  · subst h; simp [hq, hlen]
  · simp [h, hq, flagsTo]
end Go.Proofs.Ytjebpngdinbckaa
end

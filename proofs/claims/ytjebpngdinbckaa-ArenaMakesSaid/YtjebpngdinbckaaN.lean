import Derived.Test.YtjebpngdinbckaaD
import Derived.Laws.BytesString
import Derived.Laws.RangeAny
import Derived.Laws.RangeString
import Derived.Laws.Strings
/- Strings: their bytes, ranges over them, and what bytes make. -/
namespace Go.Dk

/-- Bytes as values. -/
def bytesV (l : List UInt8) : List Value := l.map fun b => Value.int .u8 (b.toNat : Int)
def strV (l : List UInt8) : Value := .string ⟨l.toArray⟩
theorem bytesV_length (l : List UInt8) : (bytesV l).length = l.length := by simp [bytesV]
theorem bytesV_get {l : List UInt8} {i : Nat} (hi : i < l.length) : (bytesV l)[i]? = some (.int .u8 (l[i].toNat : Int)) := by simp [bytesV, hi]

/-- An iterator over a string. -/
def iterS (r : Nat) (s : ByteArray) (pos : Nat) : Res := ⟨fun g => g = r, fun w => w.heap[r]? = some (.stringIter s pos), fun _ _ h hw => (h r rfl).trans hw⟩

section
variable {P : Program} {w0 w : World} {F : Nat → Prop} {L M : List Res} {k kk : Value → World → Prop}

theorem Hp.rangeStr (H : Hp w0 F w L M) {t : TypeId} {s : ByteArray} (ht : P.underlying t = some .string)
    (h : ∀ r w', Hp w0 F w' (iterS r s 0 :: L) M → k (.pointer (some ⟨r, 0, none⟩)) w') : rangeK P t (.string s) w k := by
  unfold rangeK
  refine ⟨_, w.alloc (.stringIter s 0), ?_, h w.heap.size _ (H.add (Keeps.alloc _ _) _ (heap_alloc_new w _) ?_)⟩
  · simp [Instr.range, run_underlying ht]
  · rintro g rfl; exact ⟨Nat.le_refl _, by simp⟩

theorem run_getObj_iter {r pos : Nat} {s : ByteArray} (hb : w.heap[r]? = some (.stringIter s pos)) : (getObj r).run P w = .ok (.stringIter s pos) w := by
  simp [getObj, Sem.run, hb]
theorem run_setObj_iter {r pos : Nat} {s : ByteArray} (o : Obj) (hb : w.heap[r]? = some (.stringIter s pos)) : (setObj r o).run P w = .ok () { w with heap := w.heap.setIfInBounds r o } := by
  simp [setObj, Sem.run, hb]
theorem Hp.nextStr (H : Hp w0 F w L M) (n : Nat) {ty : TypeId} {r pos : Nat} {s : ByteArray} (hn : L[n]? = some (iterS r s pos))
    (h1 : pos < s.size → ∀ w', Hp w0 F w' (L.set n (iterS r s (pos + (Utf8.decode s pos).2))) M → k (.tuple #[.bool true, .int .i64 (pos : Int), .int .i32 ((Utf8.decode s pos).1 : Int)]) w')
    (h2 : ¬ pos < s.size → k (.tuple #[.bool false]) w) : nextK P (.pointer (some ⟨r, 0, none⟩)) true ty w k := by
  have hb : w.heap[r]? = some (.stringIter s pos) := H.get n hn
  have hlt := (Array.getElem?_eq_some_iff.1 hb).1
  unfold nextK
  by_cases hp : pos < s.size
  · have hset := MapKept.heap_set (o' := .stringIter s (pos + (Utf8.decode s pos).2)) hb
    refine ⟨_, { w with heap := w.heap.setIfInBounds r (.stringIter s (pos + (Utf8.decode s pos).2)) }, ?_, h1 hp _ (H.turn n hn _ ⟨rfl, rfl, rfl, by simp, fun g _ hne => hset.2 g hne⟩ hset.1 ?_)⟩
    · simp only [Instr.next, Sem.run_bind, run_getObj_iter hb, Result.andThen_ok, hp, if_true, run_setObj_iter _ hb, Sem.run_pure, goInt]
    · rintro g rfl; exact ⟨by simpa using hlt, .inl rfl⟩
  · exact ⟨_, w, by simp only [Instr.next, Sem.run_bind, run_getObj_iter hb, Result.andThen_ok, hp, if_false, Sem.run_pure], h2 hp⟩

theorem idx_str {t : TypeId} {s : ByteArray} {i : Nat} {kd : IntKind} (hi : i < s.size) (ht : P.underlying t = some .string) (h : kk (.int .u8 (s[i].toNat : Int)) w) : idxK P t (.string s) (.int kd (i : Int)) w kk := by
  unfold idxK
  refine ⟨_, w, ?_, h⟩
  have e : s[i]? = some s[i] := getElem?_pos s i hi
  simp [Instr.index, asIntOf, run_underlying ht, e]

theorem str_append (a b : List UInt8) : (⟨a.toArray⟩ ++ ⟨b.toArray⟩ : ByteArray) = ⟨(a ++ b).toArray⟩ := by
  ext1
  simp
theorem bin_add_str {t : TypeId} {xo yo : Operand} {a b : List UInt8} (hs : a.length + b.length < 9223372036854775808) (h : kk (strV (a ++ b)) w) : binK P .add t xo yo (strV a) (strV b) w kk := by
  unfold binK strV
  refine ⟨_, w, ?_, h⟩
  have e1 : (⟨a.toArray⟩ : ByteArray).size = a.length := by simp [ByteArray.size]
  have e2 : (⟨b.toArray⟩ : ByteArray).size = b.length := by simp [ByteArray.size]
  rw [eqGuard_at_string]
  simp only [binOp, Op.stringOp, e1, e2, pure_bind]
  rw [if_neg (by simp only [IntKind.max_i64]; omega), str_append]
  rfl
theorem idx_strL {t : TypeId} {l : List UInt8} {i : Nat} {kd : IntKind} (hi : i < l.length) (ht : P.underlying t = some .string) (h : kk (.int .u8 (l[i].toNat : Int)) w) : idxK P t (strV l) (.int kd (i : Int)) w kk :=
  idx_str (s := ⟨l.toArray⟩) (by simpa [ByteArray.size] using hi) ht h
theorem bin_eql_strL {t : TypeId} {xo yo : Operand} {a b : List UInt8} (h : kk (.bool (a == b)) w) : binK P .eql t xo yo (strV a) (strV b) w kk :=
  bin_eql_str (by rw [ByteArray.toList_mk, ByteArray.toList_mk]; exact h)
theorem bin_neq_strL {t : TypeId} {xo yo : Operand} {a b : List UInt8} (h : kk (.bool (!(a == b))) w) : binK P .neq t xo yo (strV a) (strV b) w kk :=
  bin_neq_str (by rw [ByteArray.toList_mk, ByteArray.toList_mk]; exact h)
theorem foldl_push (bs : List UInt8) : ∀ r : ByteArray, ((bs.map fun b => (b.toNat : Int)).foldl (fun r n => r.push (UInt8.ofNat n.toNat)) r) = ⟨r.data ++ bs.toArray⟩ := by
  induction bs with
  | nil => intro r; simp
  | cons b bs ih =>
    intro r
    simp only [List.map_cons, List.foldl_cons, ih]
    simp [ByteArray.push]
/-- string(bytes), of one's own. -/
theorem Hp.bytesStr (H : Hp w0 F w L M) (n : Nat) {s d e : TypeId} {A : Option Addr} {l c : Nat} {bs : List UInt8} (hs : P.underlying s = some (.slice e)) (he : P.underlying e = some (.int .u8)) (hd : P.underlying d = some .string)
    (hn : L[n]? = some (own e 1 (.slice A l c) l (bytesV bs))) (h : kk (strV bs) w) : convK P s d (.slice A l c) w kk := by
  have hok := H.get n hn
  have hlen : bs.length = l := by have := hok.1; rw [bytesV_length] at this; omega
  unfold convK
  rcases hok.2 with ⟨hv, h0⟩ | ⟨g, cap, cur, hv, _⟩
  · injection hv with hv _ _
    subst hv
    have : bs = [] := List.length_eq_zero_iff.1 (by omega)
    subst this
    refine ⟨strV [], w, ?_, h⟩
    rw [run_convert_bytes_string w s d e none l c hs he hd]
    simp [Conv.bytesToString]
    rfl
  · injection hv with hv _ _
    subst hv
    refine ⟨strV bs, w, ?_, h⟩
    rw [run_convert_bytes_string w s d e _ l c hs he hd]
    have hl := run_loadCells_list (P := P) w ⟨g, 0, none⟩ (bytesV bs) (fun j v hj => by
      have hadd : (⟨g, 0, none⟩ : Addr).add j = ⟨g, j, none⟩ := by unfold Addr.add; split <;> simp_all
      have hj' := (List.getElem?_eq_some_iff.1 hj).1
      rw [bytesV_length] at hj'
      rw [hadd, own_cell hok j (by omega), hj])
    rw [bytesV_length, hlen] at hl
    have := run_bytesToString (P := P) w ⟨g, 0, none⟩ l c (bs.map fun b => (b.toNat : Int)) (by rw [hl]; simp [bytesV, Function.comp_def])
    rw [this, foldl_push]
    simp [strV]
end
end Go.Dk

import Derived.Test.YtjebpngdinbckaaR
import Derived.Maps.AppendAt
/- Slices: one's own, and those that are only read. -/
namespace Go.Dk

/-- A slice type, by the tables. -/
structure SlT (P : Program) (t e : TypeId) (z : Value) (sz by_ : Nat) : Prop where
  und : P.underlying t = some (.slice e)
  info : (P.info? e).map (fun i => (i.zero, i.size, i.bytes)) = some (some z, sz, by_)
  zs : z.cells.size = sz
  pos : 0 < sz

theorem SlT.size {P : Program} {t e : TypeId} {z : Value} {sz b : Nat} (T : SlT P t e z sz b) : sizeT P e = some sz := by
  have h := T.info
  unfold sizeT
  cases hq : P.info? e with
  | none => simp [hq] at h
  | some i => simp [hq] at h; simp [h]
theorem SlT.parts {P : Program} {t e : TypeId} {z : Value} {sz b : Nat} (T : SlT P t e z sz b) : ∃ i, P.info? e = some i ∧ i.zero = some z ∧ i.size = sz ∧ i.bytes = b := by
  have h := T.info
  cases hq : P.info? e with
  | none => simp [hq] at h
  | some i => simp [hq] at h; exact ⟨i, rfl, h.1, h.2.1, h.2.2⟩

/-- A slice of one's own, of n elements: its cells. -/
def own (e : TypeId) (sz : Nat) (v : Value) (n : Nat) (xs : List Value) : Res :=
  ⟨fun g => v.ownBlock = some g, fun w => w.ownsRow 0 e sz v n xs, fun w w' h ⟨h1, h2⟩ => ⟨h1, h2.imp id fun ⟨g, cap, cur, hv, h3, h4, h5⟩ => ⟨g, cap, cur, hv, h3, (h g (by subst hv; rfl)).trans h4, h5⟩⟩⟩

/-- A slice that is read: its block is one of S. -/
def sl (S : Nat → Prop) (v : Value) (sz n : Nat) (xs : List Value) : Res :=
  ⟨S, fun w => xs.length = n * sz ∧ ∃ A c, v = .slice A n c ∧ n ≤ c ∧ (n = 0 ∨ ∃ g o, A = some ⟨g, o, none⟩ ∧ S g ∧ ∀ j, j < n * sz → w.cell? ⟨g, o + j, none⟩ = xs[j]?),
    fun w w' h ⟨h1, A, c, hv, hc, h2⟩ => ⟨h1, A, c, hv, hc, h2.imp id fun ⟨g, o, hA, hS, hx⟩ => ⟨g, o, hA, hS, fun j hj => by
      rw [← hx j hj]; unfold World.cell?; rw [h g hS]⟩⟩⟩
/-- A slice that is read, wherever it lies. -/
def Sl (w : World) (v : Value) (sz n : Nat) (xs : List Value) : Prop := (sl (fun g => g < w.heap.size) v sz n xs).ok w

theorem sl.mono {S S' : Nat → Prop} {v : Value} {sz n : Nat} {xs : List Value} {w : World} (h : (sl S v sz n xs).ok w) (hS : ∀ g, S g → S' g) : (sl S' v sz n xs).ok w :=
  let ⟨h1, A, c, hv, hc, h2⟩ := h
  ⟨h1, A, c, hv, hc, h2.imp id fun ⟨g, o, hA, hg, hx⟩ => ⟨g, o, hA, hS g hg, hx⟩⟩
theorem own_cell {w : World} {e : TypeId} {sz n : Nat} {g c : Nat} {xs : List Value} (h : (own e sz (.slice (some ⟨g, 0, none⟩) n c) n xs).ok w) (j : Nat) (hj : j < n * sz) : w.cell? ⟨g, j, none⟩ = xs[j]? :=
  World.ownsRow.cellAt (w := w) (base := 0) h j hj
theorem own_sl {w : World} {e : TypeId} {sz : Nat} {v : Value} {n : Nat} {xs : List Value} (h : (own e sz v n xs).ok w) : (sl (fun g => v.ownBlock = some g) v sz n xs).ok w := by
  obtain ⟨h1, h2⟩ := h
  rcases h2 with ⟨rfl, rfl⟩ | ⟨g, cap, cur, rfl, _, hh, hc, _, hcs, htake⟩
  · exact ⟨h1, none, 0, rfl, Nat.le_refl _, .inl rfl⟩
  · refine ⟨h1, _, cap, rfl, hc, .inr ⟨g, 0, rfl, rfl, fun j hj => ?_⟩⟩
    rw [Nat.zero_add]
    exact own_cell ⟨h1, .inr ⟨g, cap, cur, rfl, Nat.zero_le _, hh, hc, ‹_›, hcs, htake⟩⟩ j hj
theorem own_Sl {w : World} {e : TypeId} {sz : Nat} {v : Value} {n : Nat} {xs : List Value} (h : (own e sz v n xs).ok w) : Sl w v sz n xs :=
  sl.mono (own_sl h) fun g hg => (World.ownsRow.lt (w := w) (base := 0) h g hg).2
theorem Sl_of_sl {S : Nat → Prop} {v : Value} {sz n : Nat} {xs : List Value} {w : World} (h : (sl S v sz n xs).ok w) (hS : ∀ g, S g → g < w.heap.size) : Sl w v sz n xs := sl.mono h hS
theorem Sl.same {w w' : World} {v : Value} {sz n : Nat} {xs : List Value} (h : Sl w v sz n xs) (hk : Same w w') : Sl w' v sz n xs :=
  sl.mono ((sl _ v sz n xs).stable w w' (fun g hg => hk.old g hg id) h) fun _ hg => Nat.lt_of_lt_of_le hg hk.size

/-- What a call hands back that is new. -/
structure NewR (w w' : World) (r : Res) : Prop where
  keeps : Same w w'
  ok : r.ok w'
  foot : ∀ g, r.foot g → w.heap.size ≤ g ∧ g < w'.heap.size

section
variable {P : Program} {w0 w w' : World} {F : Nat → Prop} {L M : List Res} {k kk : Value → World → Prop}

theorem Hp.addNew {r : Res} (H : Hp w0 F w L M) (h : NewR w w' r) : Hp w0 F w' (r :: L) M := H.add h.keeps r h.ok h.foot
theorem Hp.out {r : Res} (H : Hp w (fun _ => False) w' (r :: L) M) : NewR w w' r :=
  ⟨H.keeps, H.ok r (.head _), fun g hg => ⟨(H.new r (.head _) g hg).resolve_right id, H.lt r (.head _) g hg⟩⟩
theorem Hp.outAt {r : Res} (H : Hp w (fun _ => False) w' L M) (n : Nat) (hn : L[n]? = some r) : NewR w w' r :=
  have hm := List.mem_of_getElem? hn
  ⟨H.keeps, H.ok r hm, fun g hg => ⟨(H.new r hm g hg).resolve_right id, H.lt r hm g hg⟩⟩

/-- nil, a slice of one's own. -/
theorem Hp.ownNil (H : Hp w0 F w L M) (e : TypeId) (sz : Nat) : Hp w0 F w (own e sz (.slice none 0 0) 0 [] :: L) M :=
  H.add (Keeps.refl _ _) _ (World.ownsRow_nil w 0 e sz) (fun g hg => by cases hg)

theorem Hp.ownA (H : Hp w0 F w L M) (n : Nat) {e : TypeId} {sz : Nat} {A : Option Addr} {l c : Nat} {xs : List Value} (hn : L[n]? = some (own e sz (.slice A l c) l xs)) (hl : 0 < l) :
    ∃ g, A = some ⟨g, 0, none⟩ := by
  obtain ⟨h1, h2⟩ := H.get n hn
  rcases h2 with ⟨_, rfl⟩ | ⟨g, cap, cur, hv, _⟩
  · omega
  · injection hv with hA _ _; exact ⟨g, hA⟩
theorem Hp.ownLen (H : Hp w0 F w L M) (n : Nat) {e : TypeId} {sz : Nat} {v : Value} {l : Nat} {xs : List Value} (hn : L[n]? = some (own e sz v l xs)) : xs.length = l * sz := (H.get n hn).1
theorem Hp.ownV (H : Hp w0 F w L M) (n : Nat) {e : TypeId} {sz : Nat} {v : Value} {l : Nat} {xs : List Value} (hn : L[n]? = some (own e sz v l xs)) : ∃ A c, v = .slice A l c := by
  obtain ⟨h1, h2⟩ := H.get n hn
  rcases h2 with ⟨rfl, rfl⟩ | ⟨g, cap, cur, hv, _⟩
  · exact ⟨_, _, rfl⟩
  · exact ⟨_, _, hv⟩
theorem Sl.A {sz l : Nat} {xs : List Value} {A : Option Addr} {c : Nat} (h : Sl w (.slice A l c) sz l xs) (hl : 0 < l) : ∃ g o, A = some ⟨g, o, none⟩ := by
  obtain ⟨h1, A', c', hv, _, h2⟩ := h
  injection hv with hA _ _
  subst hA
  rcases h2 with rfl | ⟨g, o, hA, _⟩
  · omega
  · exact ⟨g, o, hA⟩
theorem Sl.V {v : Value} {sz l : Nat} {xs : List Value} (h : Sl w v sz l xs) : ∃ A c, v = .slice A l c := let ⟨_, A, c, hv, _⟩ := h; ⟨A, c, hv⟩
theorem Sl.cell {sz l g o c : Nat} {xs : List Value} (h : Sl w (.slice (some ⟨g, o, none⟩) l c) sz l xs) (j : Nat) (hj : j < l * sz) : w.cell? ⟨g, o + j, none⟩ = xs[j]? := by
  obtain ⟨h1, A', c', hv, _, h2⟩ := h
  injection hv with hA _ _
  subst hA
  rcases h2 with rfl | ⟨g', o', hA, _, hx⟩
  · simp at hj
  · injection hA with hA; injection hA with e1 e2 _; subst e1; subst e2; exact hx j hj

/-- An element read. -/
theorem Hp.loadOwn (H : Hp w0 F w L M) (n : Nat) {e ty : TypeId} {sz g i l c : Nat} {xs : List Value} {u : Value} (hn : L[n]? = some (own e sz (.slice (some ⟨g, 0, none⟩) l c) l xs)) (hagg : aggT P ty = some false)
    (hx : xs[i]? = some u) (h : k u w) : loadK P ty (.pointer (some ⟨g, i, none⟩)) w k := by
  have hok := H.get n hn
  have hlen := hok.1
  refine load_cell hagg ?_ h
  rw [own_cell hok i (by have := (List.getElem?_eq_some_iff.1 hx).1; omega), hx]
/-- An element of a slice that is only read, of a world at the call's begin. -/
theorem Hp.loadSl (H : Hp w0 (fun _ => False) w L M) {ty : TypeId} {sz g o i l c : Nat} {xs : List Value} {u : Value} (hs : Sl w0 (.slice (some ⟨g, o, none⟩) l c) sz l xs) (hagg : aggT P ty = some false)
    (o' : Nat) (ho : o' = o + i) (hx : xs[i]? = some u) (h : k u w) : loadK P ty (.pointer (some ⟨g, o', none⟩)) w k := by
  subst ho
  have hs' := hs.same H.keeps
  have hlen := hs.1
  refine load_cell hagg ?_ h
  rw [hs'.cell i (by have := (List.getElem?_eq_some_iff.1 hx).1; omega), hx]
/-- An element written. -/
theorem Hp.storeOwn (H : Hp w0 F w L M) (n : Nat) {e ty : TypeId} {sz g i l c : Nat} {xs : List Value} {u : Value} (hn : L[n]? = some (own e sz (.slice (some ⟨g, 0, none⟩) l c) l xs)) (hs : sizeT P ty = some 1)
    (hi : i < xs.length) (h1 : u.oneCell' = true) (h : ∀ w', Hp w0 F w' (L.set n (own e sz (.slice (some ⟨g, 0, none⟩) l c) l (xs.set i u))) M → k undef w') : storeK P ty (.pointer (some ⟨g, i, none⟩)) u w k := by
  have hok := H.get n hn
  have hlen := hok.1
  have hcell : w.cell? ⟨g, i, none⟩ = some xs[i] := by rw [own_cell hok i (by omega)]; exact List.getElem?_eq_getElem hi
  have hfz : w.frozen? ⟨g, i, none⟩ = false := World.ownsRow.frozenAt (w := w) (base := 0) hok i
  have hcells : u.cells = #[u] := by cases u <;> first | rfl | cases h1
  unfold storeK
  have hown := (World.ownsRow.stored (w := w) (base := 0) hok i u).1
  refine ⟨w.setCell ⟨g, i, none⟩ u, ?_, h _ (H.turn n hn _ ((Keeps.setCell w ⟨g, i, none⟩ u).mono fun x hx => by subst hx; rfl) hown ?_)⟩
  · have hst := run_store P w ⟨g, i, none⟩ u .plain h1
    have hadd : (⟨g, i, none⟩ : Addr).add 0 = ⟨g, i, none⟩ := by simp [Addr.add]
    simp [Instr.storeAt, Instr.sureAddr, storeVar, hcells, run_sizeOf hs, storeCells, hadd, hst, hcell, hfz]
  · intro x hx
    exact ⟨by simpa using (World.ownsRow.lt (w := w) (base := 0) hok x hx).2, .inl hx⟩

/-- len. -/
theorem len_sl {t e ty : TypeId} {cs : Array Bool} {A : Option Addr} {n c : Nat} (ht : P.underlying t = some (.slice e)) (h : kk (.int .i64 (n : Int)) w) : builtinK P .len #[t] ty cs [.slice A n c] w kk := by
  unfold builtinK
  refine ⟨_, w, ?_, h⟩
  show (do pure (.value (← Builtin.len_ #[t] ty #[.slice A n c])) : Sem Next).run P w = _
  simp [Builtin.len_, run_underlying ht, goInt]
theorem len_str {t ty : TypeId} {cs : Array Bool} {s : ByteArray} (ht : P.underlying t = some .string) (h : kk (.int .i64 (s.size : Int)) w) : builtinK P .len #[t] ty cs [.string s] w kk := by
  unfold builtinK
  refine ⟨_, w, ?_, h⟩
  show (do pure (.value (← Builtin.len_ #[t] ty #[.string s])) : Sem Next).run P w = _
  simp [Builtin.len_, run_underlying ht, goInt]

/-- A literal slice. -/
theorem Hp.buildSl (H : Hp w0 F w L M) {t e : TypeId} {z : Value} {sz b n : Nat} {ps : List (Nat × Value)} {cs : Array Value} (T : SlT P t e z sz b) (hn : 0 < n) (hsm : n * sz ≤ 16777216)
    (hf : Instr.fill (fun i => some (i * sz, sz)) ((Array.range (n * sz)).map (z.cells[· % z.cells.size]!)) ps = some cs)
    (h : ∀ g w', Hp w0 F w' (blk g e cs :: L) M → k (.slice (some ⟨g, 0, none⟩) n n) w') : buildSliceK P t n ps w k := by
  unfold buildSliceK
  refine ⟨_, w.alloc (.cells cs e), ?_, h w.heap.size _ (H.add (Keeps.alloc _ _) _ (heap_alloc_new w _) ?_)⟩
  · obtain ⟨i, hi, hz, hs, hb⟩ := T.parts
    have hnz : n * sz ≠ 0 := Nat.mul_ne_zero (by omega) (by have := T.pos; omega)
    have hzr : zeroT P e = some z := by unfold zeroT; rw [hi]; exact hz
    simp only [Instr.buildSlice, Sem.run_bind, run_underlying T.und, Result.andThen_ok, run_sizeOf T.size]
    rw [if_neg (by omega)]
    simp only [hnz, if_false, Sem.run_bind, run_zero hzr, Result.andThen_ok, Sem.run_pure, hf]
    simp [newRow]
  · rintro g rfl; exact ⟨Nat.le_refl _, by simp⟩
/-- The one-element slice that an append lays first. -/
theorem fill_one {x z : Value} (hx : x.cells = #[x]) (hz : z.cells.size = 1) : Instr.fill (fun i => some (i * 1, 1)) ((Array.range (1 * 1)).map (z.cells[· % z.cells.size]!)) [(0, x)] = some #[x] := by
  have : (Array.range (1 * 1)).map (fun i => z.cells[i % z.cells.size]!) = #[z.cells[0]!] := by
    simp [hz]; exact ⟨0, by decide, getElem!_pos z.cells 0 (by omega)⟩
  rw [this]
  simp only [Instr.fill, hx]
  simp
theorem Hp.buildOne (H : Hp w0 F w L M) {t e : TypeId} {z x : Value} {b : Nat} (T : SlT P t e z 1 b) (hx : x.cells = #[x])
    (h : ∀ g w', Hp w0 F w' (blk g e #[x] :: L) M → k (.slice (some ⟨g, 0, none⟩) 1 1) w') : buildSliceK P t 1 [(0, x)] w k :=
  H.buildSl T (by omega) (by omega) (fill_one hx T.zs) h

/-- append onto one's own slice, of cells that lie in a block of one's own; what was at n is turned, the others stay. -/
theorem Hp.appendBlk (H : Hp w0 F w L M) (n : Nat) (m : Nat) {t e ty : TypeId} {z v : Value} {sz b l g c d : Nat} {xs : List Value} {cs : Array Value} {cst : Array Bool} (T : SlT P t e z sz b)
    (hn : L[n]? = some (own e sz v l xs)) (hm : L[m]? = some (blk g e cs)) (hcs : cs.size = c * sz) (h1 : ∀ u ∈ cs.toList, u.oneCell' = true) (hl : (l + c) * b ≤ 140737488355328) (hl' : l + c < 1152921504606846976)
    (h : ∀ A d w', Hp w0 F w' (L.set n (own e sz (.slice A (l + c) d) (l + c) (xs ++ cs.toList))) M → kk (.slice A (l + c) d) w') :
    builtinK P .append #[t, t] ty cst [v, .slice (some ⟨g, 0, none⟩) c d] w kk := by
  obtain ⟨i, hi, hz, hs, hb⟩ := T.parts
  have hown : w.ownsRow 0 e sz v l xs := H.get n hn
  have hblk := H.get m hm
  obtain ⟨v', w', hrun, hown', hg, _, hloc⟩ := run_append_own_at (P := P) w 0 t ty e i z sz b T.und hi hz hs hb T.zs T.pos v l xs hown ⟨g, 0, none⟩ c d cs.toList (by simp [hcs])
    (fun j u hu => by
      have hadd : (⟨g, 0, none⟩ : Addr).add j = ⟨g, j, none⟩ := by unfold Addr.add; split <;> simp_all
      rw [hadd, blk_cell hblk]; simpa using hu) h1 (by unfold maxLen; omega) hl (Nat.zero_le _)
  have hk : Keeps (own e sz v l xs).foot w w' := ⟨hg.os, hg.tape, hg.output, hg.size, fun x hx hne => hg.block x hx fun e => hne e.symm⟩
  have H' := H.turn n hn (own e sz v' (l + c) (xs ++ cs.toList)) hk hown' (fun x hx => ⟨(World.ownsRow.lt (w := w') (base := 0) hown' x hx).2, by
    have hx' : v'.ownBlock = some x := hx
    rcases hloc with h | h
    · left; show v.ownBlock = some x; rw [← h]; exact hx'
    · right; rw [h] at hx'; injection hx' with hx'; omega⟩)
  have hv : ∃ A d, v' = .slice A (l + c) d := by
    rcases hown'.2 with ⟨rfl, h0⟩ | ⟨g', cap, cur, hv, _⟩
    · exact ⟨none, 0, by rw [h0]⟩
    · exact ⟨_, _, hv⟩
  obtain ⟨A, d', rfl⟩ := hv
  unfold builtinK
  refine ⟨_, w', ?_, h A d' w' H'⟩
  show (do pure (.value (← Builtin.append_ #[t, t] ty #[v, .slice (some ⟨g, 0, none⟩) c d])) : Sem Next).run P w = _
  rw [Sem.run_bind, hrun]
  rfl
/-- append of one element: buildSlice, then append. -/
theorem Hp.appendOne {g : Nat} {e : TypeId} {x : Value} (H : Hp w0 F w (blk g e #[x] :: L) M) (n : Nat) {t ty : TypeId} {z v : Value} {b l d : Nat} {xs : List Value} {cst : Array Bool} (T : SlT P t e z 1 b)
    (hn : L[n]? = some (own e 1 v l xs)) (h1 : x.oneCell' = true) (hl : (l + 1) * b ≤ 140737488355328) (hl' : l + 1 < 1152921504606846976)
    (h : ∀ A d w', Hp w0 F w' (L.set n (own e 1 (.slice A (l + 1) d) (l + 1) (xs ++ [x]))) M → kk (.slice A (l + 1) d) w') :
    builtinK P .append #[t, t] ty cst [v, .slice (some ⟨g, 0, none⟩) 1 d] w kk :=
  H.appendBlk (n + 1) 0 T (by simpa using hn) rfl rfl (by simpa using h1) hl hl' fun A d w' H' => h A d w' (by simpa using H'.forget)

/-- make. -/
theorem Hp.make (H : Hp w0 F w L M) {t e : TypeId} {z : Value} {sz b : Nat} (T : SlT P t e z sz b) {kl kc : IntKind} (n : Nat) {i j : Int} (hi : i = (n : Int)) (hj : j = (n : Int)) (hb : b * n ≤ 281474976710656) (hn : n < 1152921504606846976)
    (h : ∀ g w', Hp w0 F w' (own e sz (.slice (some ⟨g, 0, none⟩) n n) n (madeCells z.cells (n * sz)).toList :: L) M → k (.slice (some ⟨g, 0, none⟩) n n) w') : makeSliceK P t (.int kl i) (.int kc j) w k := by
  subst hi; subst hj
  obtain ⟨i, hi, hz, hs, hby⟩ := T.parts
  obtain ⟨w', hr, hown, hg⟩ := run_make_full (P := P) w 0 t e i z sz T.und hi hz hs kl kc n (by rw [hby]; exact hb) (by unfold maxLen; omega) (Nat.zero_le _)
  unfold makeSliceK
  refine ⟨_, w', hr, h w.heap.size w' (H.add ⟨hg.os, hg.tape, hg.output, hg.size, fun x hx _ => hg.block x hx (by simp)⟩ _ hown fun x hx => ?_)⟩
  have h2 := (World.ownsRow.lt (w := w') (base := 0) hown x hx).2
  have hx' : w.heap.size = x := by injection hx
  exact ⟨by omega, h2⟩
end
end Go.Dk

import Derived.Test.YtjebpngdinbckaaM
import Derived.Test.YtjebpngdinbckaaO
import Derived.Test.YtjebpngdinbckaaR
import Derived.Laws.Cells
/- More rules: drawn regions, elements of more than one cell, parts that are taken together. -/
namespace Go.Dk

/-! ### Elements of more than one cell -/
section
variable {α : Type}
def flat (enc : α → List Value) (l : List α) : List Value := l.flatMap enc
theorem flat_length {enc : α → List Value} {sz : Nat} (he : ∀ a, (enc a).length = sz) (l : List α) : (flat enc l).length = l.length * sz := by
  induction l with
  | nil => simp [flat]
  | cons a l ih =>
    have : flat enc (a :: l) = enc a ++ flat enc l := rfl
    rw [this, List.length_append, ih, he, List.length_cons, Nat.succ_mul, Nat.add_comm]
theorem flat_split {enc : α → List Value} {l : List α} {i : Nat} {a : α} (h : l[i]? = some a) : flat enc l = flat enc (l.take i) ++ enc a ++ flat enc (l.drop (i + 1)) := by
  have hi := (List.getElem?_eq_some_iff.1 h).1
  have e : l = l.take i ++ a :: l.drop (i + 1) := by
    have h2 := (List.getElem?_eq_some_iff.1 h).2
    rw [← h2, ← List.drop_eq_getElem_cons hi, List.take_append_drop]
  conv => lhs; rw [e]
  simp [flat]
theorem flat_cell {enc : α → List Value} {sz : Nat} (he : ∀ a, (enc a).length = sz) {l : List α} {i : Nat} {a : α} (h : l[i]? = some a) (j : Nat) (hj : j < sz) : (flat enc l)[i * sz + j]? = (enc a)[j]? := by
  have hi := (List.getElem?_eq_some_iff.1 h).1
  rw [flat_split h, List.append_assoc, List.getElem?_append_right, flat_length he, List.length_take, Nat.min_eq_left (by omega), Nat.add_sub_cancel_left, List.getElem?_append_left (by rw [he]; exact hj)]
  rw [flat_length he, List.length_take, Nat.min_eq_left (by omega)]; omega
theorem flat_set {enc : α → List Value} {sz : Nat} (he : ∀ a, (enc a).length = sz) {l : List α} {i : Nat} (hi : i < l.length) (a : α) :
    flat enc (l.set i a) = (flat enc l).take (i * sz) ++ enc a ++ (flat enc l).drop (i * sz + sz) := by
  have hl : (flat enc (l.take i)).length = i * sz := by rw [flat_length he, List.length_take, Nat.min_eq_left (by omega)]
  have hg : l[i]? = some l[i] := List.getElem?_eq_getElem hi
  have hs : (l.set i a)[i]? = some a := by simp [hi]
  have e1 : (l.set i a).take i = l.take i := by rw [List.take_set_of_le (Nat.le_refl _)]
  have e2 : (l.set i a).drop (i + 1) = l.drop (i + 1) := by rw [List.drop_set_of_lt (by omega)]
  have h1 : (flat enc l).take (i * sz) = flat enc (l.take i) := by
    rw [flat_split hg, List.append_assoc, List.take_append_of_le_length (by rw [hl]; exact Nat.le_refl _), List.take_of_length_le (by rw [hl]; exact Nat.le_refl _)]
  have h2 : (flat enc l).drop (i * sz + sz) = flat enc (l.drop (i + 1)) := by
    rw [flat_split hg, List.drop_left' (by rw [List.length_append, hl, he])]
  rw [flat_split hs, e1, e2, h1, h2]
theorem flat_snoc (enc : α → List Value) (l : List α) (a : α) : flat enc (l ++ [a]) = flat enc l ++ enc a := by simp [flat]
end

section
variable {P : Program} {w0 w w' : World} {F : Nat → Prop} {L M : List Res} {k kk : Value → World → Prop}

/-- A drawn region in the text's order. -/
theorem Hp.draw {N : Nat} {ops : Array Oper} {K : Fr → World → Prop} {f : Fr} (H : Hp w0 F w L M) (hf : P.follows .mixedOrders = true) (hB : (Region.noSelect ops && mixB ops) = true)
    (h : ∀ w', Hp w0 F w' L M → mixK P N (fun u => Hp w0 F u L M) ops K 0 ops.toList f w') : drawK P N ops K f w :=
  draw_mix (fun u => Hp w0 F u L M) hf hB (H.same (Keeps.drew _)) (h _ (H.same (Keeps.drew _)))

/-- Several cells read. -/
theorem load_cells {a : Addr} {ty : TypeId} (cs : List Value) (hagg : aggT P ty = some true) (hs : sizeT P ty = some cs.length) (hc : ∀ j v, cs[j]? = some v → w.cell? (a.add j) = some v)
    (h : k (.agg cs.toArray) w) : loadK P ty (.pointer (some a)) w k := by
  unfold loadK
  refine ⟨_, w, ?_, h⟩
  simp [Instr.loadAt, Instr.sureAddr, loadVar, run_isAgg hagg, run_sizeOf hs, run_loadCells_list w a cs hc]
theorem Hp.loadOwnAgg {α : Type} (H : Hp w0 F w L M) (n : Nat) {enc : α → List Value} {e ty : TypeId} {sz g o l c : Nat} {xs : List α} (hn : L[n]? = some (own e sz (.slice (some ⟨g, 0, none⟩) l c) l (flat enc xs)))
    (he : ∀ a, (enc a).length = sz) (hagg : aggT P ty = some true) (hs : sizeT P ty = some sz) (i : Nat) {a : α} (ho : o = i * sz) (hx : xs[i]? = some a)
    (h : k (.agg (enc a).toArray) w) : loadK P ty (.pointer (some ⟨g, o, none⟩)) w k := by
  subst ho
  have hok := H.get n hn
  have hlen : (flat enc xs).length = l * sz := hok.1
  rw [flat_length he] at hlen
  have hi := (List.getElem?_eq_some_iff.1 hx).1
  refine load_cells (enc a) hagg (by rw [he]; exact hs) (fun j v hj => ?_) h
  have hjs : j < sz := by have := (List.getElem?_eq_some_iff.1 hj).1; rwa [he] at this
  have hadd : (⟨g, i * sz, none⟩ : Addr).add j = ⟨g, i * sz + j, none⟩ := by unfold Addr.add; split <;> simp_all
  have h1 : (i + 1) * sz ≤ xs.length * sz := Nat.mul_le_mul_right _ (by omega)
  rw [Nat.succ_mul] at h1
  rw [hadd, own_cell hok (i * sz + j) (by omega), flat_cell he hx j hjs, hj]
theorem Hp.loadOwnFld {α : Type} (H : Hp w0 F w L M) (n : Nat) {enc : α → List Value} {e ty : TypeId} {sz g o l c : Nat} {xs : List α} (hn : L[n]? = some (own e sz (.slice (some ⟨g, 0, none⟩) l c) l (flat enc xs)))
    (he : ∀ a, (enc a).length = sz) (hagg : aggT P ty = some false) (i j : Nat) {a : α} {u : Value} (ho : o = i * sz + j) (hx : xs[i]? = some a) (hj : (enc a)[j]? = some u)
    (h : k u w) : loadK P ty (.pointer (some ⟨g, o, none⟩)) w k := by
  subst ho
  have hjs : j < sz := by have := (List.getElem?_eq_some_iff.1 hj).1; rwa [he] at this
  exact H.loadOwn n hn hagg ((flat_cell he hx j hjs).trans hj) h
theorem Sl.loadAgg {α : Type} (H : Hp w0 (fun _ => False) w L M) {enc : α → List Value} {ty : TypeId} {sz g o o' l c : Nat} {xs : List α} (hS : Sl w0 (.slice (some ⟨g, o, none⟩) l c) sz l (flat enc xs))
    (he : ∀ a, (enc a).length = sz) (hagg : aggT P ty = some true) (hs : sizeT P ty = some sz) (i : Nat) {a : α} (ho : o' = o + i * sz) (hx : xs[i]? = some a)
    (h : k (.agg (enc a).toArray) w) : loadK P ty (.pointer (some ⟨g, o', none⟩)) w k := by
  subst ho
  have hS' := hS.same H.keeps
  have hlen : (flat enc xs).length = l * sz := hS.1
  rw [flat_length he] at hlen
  have hi := (List.getElem?_eq_some_iff.1 hx).1
  refine load_cells (enc a) hagg (by rw [he]; exact hs) (fun j v hj => ?_) h
  have hjs : j < sz := by have := (List.getElem?_eq_some_iff.1 hj).1; rwa [he] at this
  have hadd : (⟨g, o + i * sz, none⟩ : Addr).add j = ⟨g, o + (i * sz + j), none⟩ := by unfold Addr.add; split <;> simp_all [Nat.add_assoc]
  have h1 : (i + 1) * sz ≤ xs.length * sz := Nat.mul_le_mul_right _ (by omega)
  rw [Nat.succ_mul] at h1
  rw [hadd, hS'.cell (i * sz + j) (by omega), flat_cell he hx j hjs, hj]

theorem storeCells_off (g o : Nat) : ∀ (vs : List Value) (i : Nat), storeCells ⟨g, o, none⟩ vs i = storeCells ⟨g, 0, none⟩ vs (o + i)
  | [], _ => rfl
  | v :: vs, i => by
    have e1 : (⟨g, o, none⟩ : Addr).add i = ⟨g, o + i, none⟩ := by unfold Addr.add; split <;> simp_all
    have e2 : (⟨g, 0, none⟩ : Addr).add (o + i) = ⟨g, o + i, none⟩ := by unfold Addr.add; split <;> simp_all
    rw [storeCells, storeCells, e1, e2, storeCells_off g o vs (i + 1), Nat.add_assoc]
/-- An element of several cells written. -/
theorem Hp.storeOwnAgg {α : Type} (H : Hp w0 F w L M) (n : Nat) {enc : α → List Value} {e ty : TypeId} {sz g o l c : Nat} {xs : List α} {cs : Array Value} (a : α) (hn : L[n]? = some (own e sz (.slice (some ⟨g, 0, none⟩) l c) l (flat enc xs)))
    (he : ∀ a, (enc a).length = sz) (hs : sizeT P ty = some sz) (i : Nat) (ho : o = i * sz) (hi : i < xs.length) (hcs : cs = (enc a).toArray) (h1 : ∀ v ∈ enc a, v.oneCell' = true)
    (h : ∀ w', Hp w0 F w' (L.set n (own e sz (.slice (some ⟨g, 0, none⟩) l c) l (flat enc (xs.set i a)))) M → k undef w') : storeK P ty (.pointer (some ⟨g, o, none⟩)) (.agg cs) w k := by
  subst ho; subst hcs
  have hok := H.get n hn
  have hlen : (flat enc xs).length = l * sz := hok.1
  have hlen' := hlen
  rw [flat_length he] at hlen'
  have h2 : (i + 1) * sz ≤ xs.length * sz := Nat.mul_le_mul_right _ (by omega)
  rw [Nat.succ_mul] at h2
  rcases hok.2 with ⟨hv, _⟩ | ⟨g', cap, cur, hv, hb, hg, hc, hm, hcur, htake⟩
  · cases hv
  · injection hv with hv1 _ hv2
    injection hv1 with hv1
    injection hv1 with hv1 _ _
    subst hv1; subst hv2
    have hcl : cur.toList.length = c * sz := by simpa using hcur
    have hls : l * sz ≤ c * sz := Nat.mul_le_mul_right _ hc
    obtain ⟨w', hr, hk, hb'⟩ := storeCells_run (P := P) (enc a) w cur (i * sz) hg (by rw [he]; omega) h1
    rw [he] at hb'
    unfold storeK
    have hown : (own e sz (.slice (some ⟨g, 0, none⟩) l c) l (flat enc (xs.set i a))).ok w' := by
      refine ⟨by rw [flat_length he, List.length_set]; exact hlen', .inr ⟨g, c, _, rfl, hb, hb', hc, hm, ?_, ?_⟩⟩
      · simp only [List.size_toArray, List.length_append, List.length_take, List.length_drop, he]
        omega
      · rw [flat_set he hi, ← htake]
        simp only [List.append_assoc]
        rw [List.take_append, List.take_append, List.length_take, he, List.take_take, List.take_take, List.drop_take]
        have e1 : min (l * sz) (i * sz) = i * sz := by omega
        have e2 : min (i * sz) cur.toList.length = i * sz := by omega
        have e3 : min (i * sz) (l * sz) = i * sz := by omega
        rw [e1, e2, e3, List.take_of_length_le (l := enc a) (by rw [he]; omega)]
        congr 3
        omega
    refine ⟨w', ?_, h _ (H.turn n hn _ (hk.mono fun x hx => by subst hx; rfl) hown ?_)⟩
    · have : storeCells ⟨g, i * sz, none⟩ (enc a) 0 = storeCells ⟨g, 0, none⟩ (enc a) (i * sz) := storeCells_off g (i * sz) (enc a) 0
      simp [Instr.storeAt, Instr.sureAddr, storeVar, Value.cells, run_sizeOf hs, he, this, hr]
    · intro x hx
      refine ⟨Nat.lt_of_lt_of_le (World.ownsRow.lt (w := w) (base := 0) hok x ?_).2 hk.size, .inl hx⟩
      exact hx
theorem Hp.storeOwnFld {α : Type} (H : Hp w0 F w L M) (n : Nat) {enc : α → List Value} {e ty : TypeId} {sz g o l c : Nat} {xs : List α} {u : Value} (a' : α) (hn : L[n]? = some (own e sz (.slice (some ⟨g, 0, none⟩) l c) l (flat enc xs)))
    (he : ∀ a, (enc a).length = sz) (hs : sizeT P ty = some 1) (i j : Nat) {a : α} (ho : o = i * sz + j) (hx : xs[i]? = some a) (hj : j < sz) (ha' : enc a' = (enc a).set j u) (h1 : u.oneCell' = true)
    (h : ∀ w', Hp w0 F w' (L.set n (own e sz (.slice (some ⟨g, 0, none⟩) l c) l (flat enc (xs.set i a')))) M → k undef w') : storeK P ty (.pointer (some ⟨g, o, none⟩)) u w k := by
  subst ho
  have hi := (List.getElem?_eq_some_iff.1 hx).1
  have h2 : (i + 1) * sz ≤ xs.length * sz := Nat.mul_le_mul_right _ (by omega)
  rw [Nat.succ_mul] at h2
  refine H.storeOwn n hn hs (by rw [flat_length he]; omega) h1 fun w' H' => h w' ?_
  have e : (flat enc xs).set (i * sz + j) u = flat enc (xs.set i a') := by
    have hl : (flat enc (xs.take i)).length = i * sz := by rw [flat_length he, List.length_take, Nat.min_eq_left (by omega)]
    have hs' : (xs.set i a')[i]? = some a' := by simp [hi]
    rw [flat_split hx, flat_split hs', List.take_set_of_le (Nat.le_refl _), List.drop_set_of_lt (by omega), ha', List.append_assoc, List.append_assoc,
      List.set_append_right _ _ (by omega), hl, Nat.add_sub_cancel_left, List.set_append_left _ _ (by rw [he]; exact hj)]
  rwa [e] at H'
end

/-! ### Parts that are taken together -/
def seps (Ls : List Res) : Res :=
  ⟨fun g => ∃ r ∈ Ls, r.foot g, fun w => (∀ r ∈ Ls, r.ok w) ∧ (∀ r ∈ Ls, ∀ g, r.foot g → g < w.heap.size) ∧ Ls.Pairwise fun (r s : Res) => ∀ g : Nat, r.foot g → ¬ s.foot g,
    fun w w' h ⟨h1, h2, h3⟩ => ⟨fun r hr => r.stable w w' (fun g hg => h g ⟨r, hr, hg⟩) (h1 r hr), fun r hr g hg => by
      have := h2 r hr g hg
      have e := h g ⟨r, hr, hg⟩
      rw [Array.getElem?_eq_getElem this] at e
      exact (Array.getElem?_eq_some_iff.1 e).1, h3⟩⟩

section
variable {P : Program} {w0 w w' : World} {F : Nat → Prop} {L M Ls : List Res} {k kk : Value → World → Prop} {r r' : Res}

theorem Hp.join (H : Hp w0 F w (Ls ++ L) M) : Hp w0 F w (seps Ls :: L) M := by
  obtain ⟨h1, h2, h3⟩ := List.pairwise_append.1 H.dis
  refine ⟨H.keeps, ?_, ?_, ?_, ?_, H.rok, H.rlt, ?_⟩
  · intro r hr
    rcases List.mem_cons.1 hr with rfl | hr
    · exact ⟨fun r hr => H.ok r (List.mem_append_left _ hr), fun r hr => H.lt r (List.mem_append_left _ hr), h1⟩
    · exact H.ok r (List.mem_append_right _ hr)
  · intro r hr g hg
    rcases List.mem_cons.1 hr with rfl | hr
    · obtain ⟨s, hs, hg⟩ := hg; exact H.lt s (List.mem_append_left _ hs) g hg
    · exact H.lt r (List.mem_append_right _ hr) g hg
  · intro r hr g hg
    rcases List.mem_cons.1 hr with rfl | hr
    · obtain ⟨s, hs, hg⟩ := hg; exact H.new s (List.mem_append_left _ hs) g hg
    · exact H.new r (List.mem_append_right _ hr) g hg
  · refine .cons (fun s hs g ⟨q, hq, hg⟩ hg' => h3 q hq s hs g hg hg') h2
  · intro r hr s hs g hg hg'
    rcases List.mem_cons.1 hs with rfl | hs
    · obtain ⟨q, hq, hg'⟩ := hg'; exact H.rdis r hr q (List.mem_append_left _ hq) g hg hg'
    · exact H.rdis r hr s (List.mem_append_right _ hs) g hg hg'
theorem Hp.split (H : Hp w0 F w (seps Ls :: L) M) : Hp w0 F w (Ls ++ L) M := by
  obtain ⟨h1, h2, h3⟩ := H.ok _ (.head _)
  have hd := List.pairwise_cons.1 H.dis
  refine ⟨H.keeps, ?_, ?_, ?_, ?_, H.rok, H.rlt, ?_⟩
  · intro r hr
    rcases List.mem_append.1 hr with hr | hr
    · exact h1 r hr
    · exact H.ok r (.tail _ hr)
  · intro r hr
    rcases List.mem_append.1 hr with hr | hr
    · exact h2 r hr
    · exact H.lt r (.tail _ hr)
  · intro r hr g hg
    rcases List.mem_append.1 hr with hr | hr
    · exact H.new _ (.head _) g ⟨r, hr, hg⟩
    · exact H.new r (.tail _ hr) g hg
  · exact List.pairwise_append.2 ⟨h3, hd.2, fun r hr s hs g hg hg' => hd.1 s hs g ⟨r, hr, hg⟩ hg'⟩
  · intro r hr s hs g hg hg'
    rcases List.mem_append.1 hs with hs | hs
    · exact H.rdis r hr _ (.head _) g hg ⟨s, hs, hg'⟩
    · exact H.rdis r hr s (.tail _ hs) g hg hg'

/-- A part turned by a call. -/
structure Turn (w w' : World) (r r' : Res) : Prop where
  keeps : Keeps r.foot w w'
  ok : r'.ok w'
  foot : ∀ g, r'.foot g → g < w'.heap.size ∧ (r.foot g ∨ w.heap.size ≤ g)
theorem Hp.turnBy (H : Hp w0 F w L M) (n : Nat) (hn : L[n]? = some r) (h : Turn w w' r r') : Hp w0 F w' (L.set n r') M := H.turn n hn r' h.keeps h.ok h.foot
theorem Hp.own1 (hr : r.ok w) (hlt : ∀ g, r.foot g → g < w.heap.size) : Hp w r.foot w [r] [] :=
  ⟨Keeps.refl _ _, by simpa using hr, by simpa using hlt, by intro s hs g hg; rw [List.mem_singleton] at hs; subst hs; exact .inr hg, by simp, by simp, by simp, by simp⟩
theorem Hp.own1M (hr : r.ok w) (hlt : ∀ g, r.foot g → g < w.heap.size) (hM : ∀ s ∈ M, s.ok w) (hMlt : ∀ s ∈ M, ∀ g, s.foot g → g < w.heap.size) (hd : ∀ s ∈ M, ∀ g, s.foot g → ¬ r.foot g) : Hp w r.foot w [r] M :=
  ⟨Keeps.refl _ _, by simpa using hr, by simpa using hlt, by intro s hs g hg; rw [List.mem_singleton] at hs; subst hs; exact .inr hg, by simp, hM, hMlt, by simpa using hd⟩
theorem Hp.outTurn (H : Hp w r.foot w' (r' :: L) M) : Turn w w' r r' :=
  ⟨H.keeps, H.ok _ (.head _), fun g hg => ⟨H.lt _ (.head _) g hg, (H.new _ (.head _) g hg).symm⟩⟩
theorem Turn.refl (hr : r.ok w) (hlt : ∀ g, r.foot g → g < w.heap.size) : Turn w w r r := ⟨Keeps.refl _ _, hr, fun g hg => ⟨hlt g hg, .inl hg⟩⟩
theorem Turn.same {w1 : World} (h : Turn w w1 r r') (hk : Same w1 w') : Turn w w' r r' :=
  ⟨h.keeps.trans hk (by simp), r'.stable _ _ (fun g hg => hk.old g (h.foot g hg).1 id) h.ok, fun g hg => ⟨Nat.lt_of_lt_of_le (h.foot g hg).1 hk.size, (h.foot g hg).2⟩⟩
/-- One part taken for another one that says no more. -/
theorem Hp.re (H : Hp w0 F w (r :: L) M) (hok : r.ok w → r'.ok w) (hf : ∀ g, r'.foot g → r.foot g) : Hp w0 F w (r' :: L) M := by
  have hd := List.pairwise_cons.1 H.dis
  refine ⟨H.keeps, ?_, ?_, ?_, ?_, H.rok, H.rlt, ?_⟩
  · intro s hs
    rcases List.mem_cons.1 hs with rfl | hs
    · exact hok (H.ok _ (.head _))
    · exact H.ok s (.tail _ hs)
  · intro s hs g hg
    rcases List.mem_cons.1 hs with rfl | hs
    · exact H.lt _ (.head _) g (hf g hg)
    · exact H.lt s (.tail _ hs) g hg
  · intro s hs g hg
    rcases List.mem_cons.1 hs with rfl | hs
    · exact H.new _ (.head _) g (hf g hg)
    · exact H.new s (.tail _ hs) g hg
  · exact .cons (fun s hs g hg => hd.1 s hs g (hf g hg)) hd.2
  · intro q hq s hs g hg hg'
    rcases List.mem_cons.1 hs with rfl | hs
    · exact H.rdis q hq _ (.head _) g hg (hf g hg')
    · exact H.rdis q hq s (.tail _ hs) g hg hg'
/-- A cell of what is only read. -/
theorem Hp.loadRO (H : Hp w0 F w L M) (n : Nat) {S : Nat → Prop} {ty : TypeId} {sz g o o' i l c : Nat} {xs : List Value} {u : Value} (hn : M[n]? = some (sl S (.slice (some ⟨g, o, none⟩) l c) sz l xs)) (hagg : aggT P ty = some false)
    (ho : o' = o + i) (hx : xs[i]? = some u) (h : k u w) : loadK P ty (.pointer (some ⟨g, o', none⟩)) w k := by
  subst ho
  obtain ⟨h1, A, c', hv, _, h2⟩ := H.ro n hn
  injection hv with hA _ hc
  subst hA; subst hc
  have hi := (List.getElem?_eq_some_iff.1 hx).1
  rcases h2 with rfl | ⟨g', o2, hA, _, hcell⟩
  · simp at h1; subst h1; simp at hi
  · injection hA with hA; injection hA with e1 e2 _; subst e1; subst e2
    exact load_cell hagg ((hcell i (by omega)).trans hx) h
end
/-! ### The same rules for whatever part is known to stand (own, or only read) -/
section
variable {P : Program} {w : World} {k kk : Value → World → Prop}
theorem ld_blk {g i : Nat} {t ty : TypeId} {cs : Array Value} {u : Value} (hr : (blk g t cs).ok w) (hagg : aggT P ty = some false) (hc : cs[i]? = some u)
    (h : k u w) : loadK P ty (.pointer (some ⟨g, i, none⟩)) w k := load_cell hagg ((blk_cell hr i).trans hc) h
theorem ld_own {e ty : TypeId} {sz g i l c : Nat} {xs : List Value} {u : Value} (hr : (own e sz (.slice (some ⟨g, 0, none⟩) l c) l xs).ok w) (hagg : aggT P ty = some false)
    (hx : xs[i]? = some u) (h : k u w) : loadK P ty (.pointer (some ⟨g, i, none⟩)) w k := by
  have hlen := hr.1
  refine load_cell hagg ?_ h
  rw [own_cell hr i (by have := (List.getElem?_eq_some_iff.1 hx).1; omega), hx]
theorem ld_fld {α : Type} {enc : α → List Value} {e ty : TypeId} {sz g o l c : Nat} {xs : List α} (hr : (own e sz (.slice (some ⟨g, 0, none⟩) l c) l (flat enc xs)).ok w)
    (he : ∀ a, (enc a).length = sz) (hagg : aggT P ty = some false) (i j : Nat) {a : α} {u : Value} (ho : o = i * sz + j) (hx : xs[i]? = some a) (hj : (enc a)[j]? = some u)
    (h : k u w) : loadK P ty (.pointer (some ⟨g, o, none⟩)) w k := by
  subst ho
  have hjs : j < sz := by have := (List.getElem?_eq_some_iff.1 hj).1; rwa [he] at this
  exact ld_own hr hagg ((flat_cell he hx j hjs).trans hj) h
theorem ld_agg {α : Type} {enc : α → List Value} {e ty : TypeId} {sz g o l c : Nat} {xs : List α} (hok : (own e sz (.slice (some ⟨g, 0, none⟩) l c) l (flat enc xs)).ok w)
    (he : ∀ a, (enc a).length = sz) (hagg : aggT P ty = some true) (hs : sizeT P ty = some sz) (i : Nat) {a : α} (ho : o = i * sz) (hx : xs[i]? = some a)
    (h : k (.agg (enc a).toArray) w) : loadK P ty (.pointer (some ⟨g, o, none⟩)) w k := by
  subst ho
  have hlen : (flat enc xs).length = l * sz := hok.1
  rw [flat_length he] at hlen
  have hi := (List.getElem?_eq_some_iff.1 hx).1
  refine load_cells (enc a) hagg (by rw [he]; exact hs) (fun j v hj => ?_) h
  have hjs : j < sz := by have := (List.getElem?_eq_some_iff.1 hj).1; rwa [he] at this
  have hadd : (⟨g, i * sz, none⟩ : Addr).add j = ⟨g, i * sz + j, none⟩ := by unfold Addr.add; split <;> simp_all
  have h1 : (i + 1) * sz ≤ xs.length * sz := Nat.mul_le_mul_right _ (by omega)
  rw [Nat.succ_mul] at h1
  rw [hadd, own_cell hok (i * sz + j) (by omega), flat_cell he hx j hjs, hj]
theorem own_base {e : TypeId} {sz : Nat} {A : Option Addr} {l c : Nat} {xs : List Value} (hr : (own e sz (.slice A l c) l xs).ok w) (hl : 0 < l) : ∃ g, A = some ⟨g, 0, none⟩ := by
  rcases hr.2 with ⟨_, rfl⟩ | ⟨g, cap, cur, hv, _⟩
  · omega
  · injection hv with hA _ _; exact ⟨g, hA⟩
theorem own_form {e : TypeId} {sz : Nat} {v : Value} {l : Nat} {xs : List Value} (hr : (own e sz v l xs).ok w) : ∃ A c, v = .slice A l c ∧ l ≤ c := by
  rcases hr.2 with ⟨rfl, rfl⟩ | ⟨g, cap, cur, hv, _, _, hc, _⟩
  · exact ⟨_, _, rfl, Nat.le_refl _⟩
  · exact ⟨_, _, hv, hc⟩
section
variable {α β : Type} {ka : α → Value} {vb : β → Value} {z : Value} {t kt et : TypeId} {l : List (α × β)} {r : Nat}
theorem lookupOk_at [DecidableEq α] (hr : (mapR ka vb r l).ok w) (W : MapW P t kt et ka vb z) (a : α)
    (h1 : ∀ b, aget l a = some b → kk (.tuple #[vb b, .bool true]) w) (h2 : aget l a = none → kk (.tuple #[z, .bool false]) w) : lookupK P t (.map (some r)) (ka a) true w kk := by
  obtain ⟨es, clock, hb, hs, hl⟩ := hr
  unfold lookupK
  rcases mapR_find W hs hl a w with ⟨hf, hg, _⟩ | ⟨j, e, b, hf, he, hek, hlj, hv, hg⟩
  · exact ⟨_, w, by simp [Instr.lookup, run_underlying W.und, MapKept.run_getObj_map hb, W.key.check w _ ⟨a, rfl⟩, hf, run_zero W.zero, Result.andThen], h2 hg⟩
  · exact ⟨_, w, by simp [Instr.lookup, run_underlying W.und, MapKept.run_getObj_map hb, W.key.check w _ ⟨a, rfl⟩, hf, hv, Result.andThen], h1 b hg⟩
theorem lenMap_at (hr : (mapR ka vb r l).ok w) (W : MapW P t kt et ka vb z) {ty : TypeId} {cst : Array Bool}
    (h : kk (.int .i64 (l.length : Int)) w) : builtinK P .len #[t] ty cst [.map (some r)] w kk := by
  obtain ⟨es, clock, hb, hs, hl⟩ := hr
  have hlen : es.size = l.length := by have := congrArg List.length hl; simpa using this
  unfold builtinK
  refine ⟨_, w, ?_, h⟩
  show (do pure (.value (← Builtin.len_ #[t] ty #[.map (some r)])) : Sem Next).run P w = _
  simp [Builtin.len_, run_underlying W.und, MapKept.run_getObj_map hb, goInt, hlen, Result.andThen]
end
end
/-! ### Conversions that change nothing -/
section
variable {P : Program} {w : World} {kk : Value → World → Prop} {s d : TypeId} {kd : IntKind} {n : Int}
theorem conv_i64 (hs : (P.underlying s).isSome = true) (hd : P.underlying d = some (.int .i64)) (h0 : -9223372036854775808 ≤ n) (h1 : n < 9223372036854775808) (h : kk (.int .i64 n) w) : convK P s d (.int kd n) w kk :=
  conv_int hs hd (by rw [wrap_i64_in h0 h1]; exact h)
theorem conv_u8 (hs : (P.underlying s).isSome = true) (hd : P.underlying d = some (.int .u8)) (h0 : 0 ≤ n) (h1 : n < 256) (h : kk (.int .u8 n) w) : convK P s d (.int kd n) w kk :=
  conv_int hs hd (by rw [wrap_u8_in h0 h1]; exact h)
theorem conv_u64 (hs : (P.underlying s).isSome = true) (hd : P.underlying d = some (.int .u64)) (h0 : 0 ≤ n) (h1 : n < 18446744073709551616) (h : kk (.int .u64 n) w) : convK P s d (.int kd n) w kk :=
  conv_int hs hd (by rw [wrap_u64_in h0 h1]; exact h)
end
/-! ### Shifts, quotients, remainders -/
section
variable {P : Program} {w : World} {kk : Value → World → Prop} {t : TypeId} {xo yo : Operand}
theorem bin_one_shl_i64 {yk : IntKind} {n : Nat} (hn : n ≤ 62) (h : kk (.int .i64 ((2 ^ n : Nat) : Int)) w) : binK P .shl t xo yo (.int .i64 1) (.int yk (n : Int)) w kk := by
  have h2 : 2 ^ n ≤ 2 ^ 62 := Nat.pow_le_pow_right (by decide) hn
  refine bin_by_eq (x' := ((1 : Nat) : Int)) rfl rfl (bin_shl_i64 (by omega) (by omega) ?_)
  rwa [Nat.one_mul]
theorem bin_one_shl_u8 {yk : IntKind} {n : Nat} (hn : n ≤ 7) (h : kk (.int .u8 ((2 ^ n : Nat) : Int)) w) : binK P .shl t xo yo (.int .u8 1) (.int yk (n : Int)) w kk := by
  have h2 : 2 ^ n ≤ 2 ^ 7 := Nat.pow_le_pow_right (by decide) hn
  refine bin_shl (by omega) ?_
  have : min (n : Int).toNat IntKind.u8.bits = n := by simp [IntKind.bits]; omega
  rw [this, show ((1 : Int) * 2 ^ n) = ((2 ^ n : Nat) : Int) by simp]
  generalize 2 ^ n = k at h2 h ⊢
  rw [wrap_u8_in (by omega) (by omega)]
  exact h
theorem bin_shr_u8 {yk : IntKind} {x n : Nat} (hn : n ≤ 8) (h : kk (.int .u8 ((x / 2 ^ n : Nat) : Int)) w) : binK P .shr t xo yo (.int .u8 (x : Int)) (.int yk (n : Int)) w kk := by
  refine bin_shr (by omega) ?_
  have : min (n : Int).toNat IntKind.u8.bits = n := by simp [IntKind.bits]; omega
  rw [this, Int.fdiv_eq_ediv_of_nonneg _ (by exact_mod_cast Nat.zero_le _)]
  have e : ((x : Int) / 2 ^ n) = ((x / 2 ^ n : Nat) : Int) := by simp
  rw [e]; exact h
theorem bin_quo_u8 {x y : Nat} (hx : x < 256) (hy : 0 < y) (h : kk (.int .u8 ((x / y : Nat) : Int)) w) : binK P .quo t xo yo (.int .u8 (x : Int)) (.int .u8 (y : Int)) w kk := by
  refine bin_quo (by omega) ?_
  have h2 : x / y ≤ x := Nat.div_le_self x y
  rw [Int.tdiv_eq_ediv_of_nonneg (by omega), show ((x : Int) / (y : Int)) = ((x / y : Nat) : Int) by simp]
  generalize x / y = q at h2 h ⊢
  rw [wrap_u8_in (by omega) (by omega)]
  exact h
theorem bin_rem_u8 {x y : Nat} (hy : 0 < y) (h : kk (.int .u8 ((x % y : Nat) : Int)) w) : binK P .rem t xo yo (.int .u8 (x : Int)) (.int .u8 (y : Int)) w kk := by
  refine bin_rem (by omega) ?_
  rw [Int.tmod_eq_emod_of_nonneg (by omega), show ((x : Int) % (y : Int)) = ((x % y : Nat) : Int) by simp]
  exact h
theorem bit_u8 (m i : Nat) : (((m / 2 ^ i &&& 1 : Nat) : Int) == 0) = !m.testBit i := by
  rw [Nat.testBit_eq_decide_div_mod_eq, Nat.and_one_is_mod]
  generalize m / 2 ^ i = q
  rw [Bool.eq_iff_iff, beq_iff_eq, Bool.not_eq_true', decide_eq_false_iff_not]
  omega
end
/-! ### Conditions, with what they say -/
theorem cond_dec {p : Prop} [Decidable p] {q r : Prop} (h1 : p → q) (h2 : ¬ p → r) : condB (decide p) q r :=
  cond_split (fun h => h1 (of_decide_eq_true h)) (fun h => h2 (of_decide_eq_false h))
theorem cond_beq {a b : Int} {q r : Prop} (h1 : a = b → q) (h2 : a ≠ b → r) : condB (a == b) q r :=
  cond_split (fun h => h1 (beq_iff_eq.1 h)) (fun h => h2 (beq_eq_false_iff_ne.1 h))
theorem cond_bne {a b : Int} {q r : Prop} (h1 : a ≠ b → q) (h2 : a = b → r) : condB (a != b) q r :=
  cond_split (fun h => h1 (by simpa using h)) (fun h => h2 (by simpa using h))
end Go.Dk

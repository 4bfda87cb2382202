import Derived.Test.YtjebpngdinbckaaW
import Derived.Laws.Rows
import Derived.Laws.OwnMore
import Derived.Laws.MakeOwn
import Derived.Laws.Entries
import Derived.Laws.Small
/- What a call holds of memory: its own blocks, and what it only reads. -/
namespace Go.Dk

/-- A part of memory: where it lies, and what holds of it. -/
structure Res where
  foot : Nat → Prop
  ok : World → Prop
  stable : ∀ w w', (∀ g, foot g → w'.heap[g]? = w.heap[g]?) → ok w → ok w'

/-- Outside F all that was there is as it was. -/
structure Keeps (F : Nat → Prop) (w w' : World) : Prop where
  os : w'.os = w.os
  tape : w'.tape = w.tape
  output : w'.output = w.output
  size : w.heap.size ≤ w'.heap.size
  old : ∀ g, g < w.heap.size → ¬ F g → w'.heap[g]? = w.heap[g]?

abbrev Same (w w' : World) : Prop := Keeps (fun _ => False) w w'

theorem Keeps.refl (F : Nat → Prop) (w : World) : Keeps F w w := ⟨rfl, rfl, rfl, Nat.le_refl _, fun _ _ _ => rfl⟩
theorem Keeps.trans {F G : Nat → Prop} {a b c : World} (h : Keeps F a b) (k : Keeps G b c) (hFG : ∀ g, g < a.heap.size → G g → F g) : Keeps F a c :=
  ⟨k.os.trans h.os, k.tape.trans h.tape, k.output.trans h.output, Nat.le_trans h.size k.size, fun g hg hf =>
    (k.old g (Nat.lt_of_lt_of_le hg h.size) (fun hG => hf (hFG g hg hG))).trans (h.old g hg hf)⟩
theorem Keeps.mono {F G : Nat → Prop} {a b : World} (h : Keeps F a b) (hFG : ∀ g, F g → G g) : Keeps G a b :=
  ⟨h.os, h.tape, h.output, h.size, fun g hg hf => h.old g hg fun hh => hf (hFG g hh)⟩
theorem Keeps.alloc (w : World) (o : Obj) : Same w (w.alloc o) :=
  ⟨rfl, rfl, rfl, by simp, fun g hg _ => heap_alloc_old w o g hg⟩
theorem Keeps.drew (w : World) : Same w w.drew := ⟨rfl, rfl, rfl, Nat.le_refl _, fun _ _ _ => rfl⟩
theorem Keeps.setCell (w : World) (a : Addr) (v : Value) : Keeps (fun g => g = a.block) w (w.setCell a v) :=
  ⟨rfl, rfl, rfl, by simp, fun g _ hne => heap_setCell_other w a g v hne⟩

structure Hp (w0 : World) (F : Nat → Prop) (w : World) (L M : List Res) : Prop where
  keeps : Keeps F w0 w
  ok : ∀ r ∈ L, r.ok w
  lt : ∀ r ∈ L, ∀ g, r.foot g → g < w.heap.size
  new : ∀ r ∈ L, ∀ g, r.foot g → w0.heap.size ≤ g ∨ F g
  dis : L.Pairwise fun r s => ∀ g, r.foot g → ¬ s.foot g
  rok : ∀ r ∈ M, r.ok w
  rlt : ∀ r ∈ M, ∀ g, r.foot g → g < w.heap.size
  rdis : ∀ r ∈ M, ∀ s ∈ L, ∀ g, r.foot g → ¬ s.foot g

section
variable {w0 w w' : World} {F : Nat → Prop} {L M : List Res}

theorem Hp.start (w : World) (F : Nat → Prop) (M : List Res) (hM : ∀ r ∈ M, r.ok w) (hlt : ∀ r ∈ M, ∀ g, r.foot g → g < w.heap.size) : Hp w F w [] M :=
  ⟨Keeps.refl _ _, by simp, by simp, by simp, .nil, hM, hlt, by simp⟩
theorem Hp.start0 (w : World) : Hp w (fun _ => False) w [] [] := Hp.start w _ [] (by simp) (by simp)

theorem Hp.same (H : Hp w0 F w L M) (hk : Same w w') : Hp w0 F w' L M := by
  have hold : ∀ g, g < w.heap.size → w'.heap[g]? = w.heap[g]? := fun g hg => hk.old g hg id
  exact ⟨H.keeps.trans hk (by simp), fun r hr => r.stable _ _ (fun g hg => hold g (H.lt r hr g hg)) (H.ok r hr),
    fun r hr g hg => Nat.lt_of_lt_of_le (H.lt r hr g hg) hk.size, H.new, H.dis,
    fun r hr => r.stable _ _ (fun g hg => hold g (H.rlt r hr g hg)) (H.rok r hr),
    fun r hr g hg => Nat.lt_of_lt_of_le (H.rlt r hr g hg) hk.size, H.rdis⟩

/-- A new part of one's own. -/
theorem Hp.add (H : Hp w0 F w L M) (hk : Same w w') (r : Res) (hok : r.ok w') (hn : ∀ g, r.foot g → w.heap.size ≤ g ∧ g < w'.heap.size) : Hp w0 F w' (r :: L) M := by
  have H' := H.same hk
  refine ⟨H'.keeps, ?_, ?_, ?_, ?_, H'.rok, H'.rlt, ?_⟩
  · intro s hs; rcases List.mem_cons.1 hs with rfl | hs
    · exact hok
    · exact H'.ok s hs
  · intro s hs; rcases List.mem_cons.1 hs with rfl | hs
    · exact fun g hg => (hn g hg).2
    · exact H'.lt s hs
  · intro s hs; rcases List.mem_cons.1 hs with rfl | hs
    · exact fun g hg => .inl (Nat.le_trans H.keeps.size (hn g hg).1)
    · exact H'.new s hs
  · exact .cons (fun s hs g hg hg' => absurd (H.lt s hs g hg') (Nat.not_lt.2 (hn g hg).1)) H'.dis
  · intro r' hr' s hs g hg hg'
    rcases List.mem_cons.1 hs with rfl | hs
    · exact absurd (H.rlt r' hr' g hg) (Nat.not_lt.2 (hn g hg').1)
    · exact H'.rdis r' hr' s hs g hg hg'

/-- A new part that is only read. -/
theorem Hp.addRO (H : Hp w0 F w L M) (hk : Same w w') (r : Res) (hok : r.ok w') (hn : ∀ g, r.foot g → g < w'.heap.size ∧ (w.heap.size ≤ g ∨ ∃ s ∈ M, s.foot g)) : Hp w0 F w' L (r :: M) := by
  have H' := H.same hk
  refine ⟨H'.keeps, H'.ok, H'.lt, H'.new, H'.dis, ?_, ?_, ?_⟩
  · intro s hs; rcases List.mem_cons.1 hs with rfl | hs
    · exact hok
    · exact H'.rok s hs
  · intro s hs; rcases List.mem_cons.1 hs with rfl | hs
    · exact fun g hg => (hn g hg).1
    · exact H'.rlt s hs
  · intro r' hr' s hs g hg hg'
    rcases List.mem_cons.1 hr' with rfl | hr'
    · rcases (hn g hg).2 with hge | ⟨q, hq, hqg⟩
      · exact absurd (H.lt s hs g hg') (Nat.not_lt.2 hge)
      · exact H.rdis q hq s hs g hqg hg'
    · exact H'.rdis r' hr' s hs g hg hg'

theorem Hp.freeze {r : Res} (H : Hp w0 F w (r :: L) M) : Hp w0 F w L (r :: M) := by
  refine ⟨H.keeps, fun s hs => H.ok s (.tail _ hs), fun s hs => H.lt s (.tail _ hs), fun s hs => H.new s (.tail _ hs), (List.pairwise_cons.1 H.dis).2, ?_, ?_, ?_⟩
  · intro s hs; rcases List.mem_cons.1 hs with rfl | hs
    · exact H.ok _ (.head _)
    · exact H.rok s hs
  · intro s hs; rcases List.mem_cons.1 hs with rfl | hs
    · exact H.lt _ (.head _)
    · exact H.rlt s hs
  · intro s hs q hq g hg hg'
    rcases List.mem_cons.1 hs with rfl | hs
    · exact (List.pairwise_cons.1 H.dis).1 q hq g hg hg'
    · exact H.rdis s hs q (.tail _ hq) g hg hg'

theorem Hp.forget {r : Res} (H : Hp w0 F w (r :: L) M) : Hp w0 F w L M :=
  ⟨H.keeps, fun s hs => H.ok s (.tail _ hs), fun s hs => H.lt s (.tail _ hs), fun s hs => H.new s (.tail _ hs), (List.pairwise_cons.1 H.dis).2, H.rok, H.rlt,
    fun s hs q hq => H.rdis s hs q (.tail _ hq)⟩
theorem Hp.forgetRO {r : Res} (H : Hp w0 F w L (r :: M)) : Hp w0 F w L M :=
  ⟨H.keeps, H.ok, H.lt, H.new, H.dis, fun s hs => H.rok s (.tail _ hs), fun s hs => H.rlt s (.tail _ hs), fun s hs => H.rdis s (.tail _ hs)⟩
/-- The same parts in another order, or fewer. -/
theorem Hp.perm {L' : List Res} (H : Hp w0 F w L M) (hp : L.Perm L') : Hp w0 F w L' M :=
  ⟨H.keeps, fun s hs => H.ok s (hp.mem_iff.2 hs), fun s hs => H.lt s (hp.mem_iff.2 hs), fun s hs => H.new s (hp.mem_iff.2 hs),
    hp.pairwise H.dis (fun h g h1 h2 => h g h2 h1), H.rok, H.rlt, fun s hs q hq => H.rdis s hs q (hp.mem_iff.2 hq)⟩
theorem Hp.front {r : Res} (H : Hp w0 F w L M) (n : Nat) (hn : L[n]? = some r) : Hp w0 F w (r :: L.eraseIdx n) M := by
  refine H.perm ?_
  clear H
  induction L generalizing n with
  | nil => simp at hn
  | cons s L ih =>
    cases n with
    | zero => simp at hn; subst hn; exact .refl _
    | succ n => exact ((ih n (by simpa using hn)).cons s).trans (.swap _ _ _)
theorem Hp.weakenRO {M' : List Res} (H : Hp w0 F w L M) (hM : ∀ r ∈ M', r ∈ M) : Hp w0 F w L M' :=
  ⟨H.keeps, H.ok, H.lt, H.new, H.dis, fun s hs => H.rok s (hM s hs), fun s hs => H.rlt s (hM s hs), fun s hs => H.rdis s (hM s hs)⟩

/-- One's own part turned. -/
theorem Hp.turn {r : Res} (H : Hp w0 F w L M) (n : Nat) (hn : L[n]? = some r) (r' : Res) (hk : Keeps r.foot w w') (hok : r'.ok w')
    (hf : ∀ g, r'.foot g → g < w'.heap.size ∧ (r.foot g ∨ w.heap.size ≤ g)) : Hp w0 F w' (L.set n r') M := by
  obtain ⟨hlt, hget⟩ := List.getElem?_eq_some_iff.1 hn
  have hrL : r ∈ L := hget ▸ List.getElem_mem hlt
  have hpw := List.pairwise_iff_getElem.1 H.dis
  have hapart : ∀ (j : Nat) (hj : j < L.length), j ≠ n → ∀ g, L[j].foot g → ¬ r.foot g := by
    intro j hj hne g h1 h2
    rw [← hget] at h2
    rcases Nat.lt_or_gt_of_ne hne with h | h
    · exact hpw j n hj hlt h g h1 h2
    · exact hpw n j hlt hj h g h2 h1
  have hmem : ∀ s ∈ L.set n r', s = r' ∨ ∃ (j : Nat) (hj : j < L.length), j ≠ n ∧ s = L[j] := by
    intro s hs
    obtain ⟨j, hj, rfl⟩ := List.mem_iff_getElem.1 hs
    rw [List.length_set] at hj
    by_cases hjn : n = j
    · subst hjn; left; simp
    · right; exact ⟨j, hj, fun h => hjn h.symm, by rw [List.getElem_set_ne hjn]⟩
  refine ⟨H.keeps.trans hk ?_, ?_, ?_, ?_, ?_, ?_, ?_, ?_⟩
  · intro g hg hr
    rcases H.new r hrL g hr with h | h
    · exact absurd hg (Nat.not_lt.2 h)
    · exact h
  · intro s hs
    rcases hmem s hs with rfl | ⟨j, hj, hne, rfl⟩
    · exact hok
    · exact (L[j]).stable _ _ (fun g hg => hk.old g (H.lt _ (List.getElem_mem hj) g hg) (hapart j hj hne g hg)) (H.ok _ (List.getElem_mem hj))
  · intro s hs g hg
    rcases hmem s hs with rfl | ⟨j, hj, hne, rfl⟩
    · exact (hf g hg).1
    · exact Nat.lt_of_lt_of_le (H.lt _ (List.getElem_mem hj) g hg) hk.size
  · intro s hs g hg
    rcases hmem s hs with rfl | ⟨j, hj, hne, rfl⟩
    · rcases (hf g hg).2 with h | h
      · exact H.new r hrL g h
      · exact .inl (Nat.le_trans H.keeps.size h)
    · exact H.new _ (List.getElem_mem hj) g hg
  · refine List.pairwise_iff_getElem.2 fun i j hi hj hij g h1 h2 => ?_
    rw [List.length_set] at hi hj
    by_cases hin : n = i
    · subst hin
      rw [List.getElem_set_self] at h1
      rw [List.getElem_set_ne (by omega)] at h2
      rcases (hf g h1).2 with h | h
      · exact hapart j hj (by omega) g h2 h
      · exact absurd (H.lt _ (List.getElem_mem hj) g h2) (Nat.not_lt.2 h)
    · by_cases hjn : n = j
      · subst hjn
        rw [List.getElem_set_self] at h2
        rw [List.getElem_set_ne (by omega)] at h1
        rcases (hf g h2).2 with h | h
        · exact hapart i hi (by omega) g h1 h
        · exact absurd (H.lt _ (List.getElem_mem hi) g h1) (Nat.not_lt.2 h)
      · rw [List.getElem_set_ne hin] at h1
        rw [List.getElem_set_ne hjn] at h2
        exact hpw i j hi hj hij g h1 h2
  · intro s hs
    exact s.stable _ _ (fun g hg => hk.old g (H.rlt s hs g hg) (H.rdis s hs r hrL g hg)) (H.rok s hs)
  · intro s hs g hg; exact Nat.lt_of_lt_of_le (H.rlt s hs g hg) hk.size
  · intro s hs q hq g hg hg'
    rcases hmem q hq with rfl | ⟨j, hj, hne, rfl⟩
    · rcases (hf g hg').2 with h | h
      · exact H.rdis s hs r hrL g hg h
      · exact absurd (H.rlt s hs g hg) (Nat.not_lt.2 h)
    · exact H.rdis s hs _ (List.getElem_mem hj) g hg hg'

theorem Hp.get {r : Res} (H : Hp w0 F w L M) (n : Nat) (hn : L[n]? = some r) : r.ok w := H.ok r (List.mem_of_getElem? hn)
theorem Hp.ro {r : Res} (H : Hp w0 F w L M) (n : Nat) (hn : M[n]? = some r) : r.ok w := H.rok r (List.mem_of_getElem? hn)
end

/-- A block that is known whole. -/
def blk (g : Nat) (t : TypeId) (cs : Array Value) : Res :=
  ⟨fun x => x = g, fun w => w.heap[g]? = some (.cells cs t (0, 0)), fun _ _ h hw => (h g rfl).trans hw⟩

theorem blk_cell {w : World} {g : Nat} {t : TypeId} {cs : Array Value} (h : (blk g t cs).ok w) (i : Nat) : w.cell? ⟨g, i, none⟩ = cs[i]? := cell_of_row w g i cs t (0, 0) h
theorem blk_frozen {w : World} {g : Nat} {t : TypeId} {cs : Array Value} (h : (blk g t cs).ok w) (i : Nat) : w.frozen? ⟨g, i, none⟩ = false := frozen_of_row w g i cs t h
theorem blk_lt {w : World} {g : Nat} {t : TypeId} {cs : Array Value} (h : (blk g t cs).ok w) : g < w.heap.size := by
  have h' : w.heap[g]? = some (.cells cs t (0, 0)) := h
  exact (Array.getElem?_eq_some_iff.1 h').1

/-- Tables: the shape of a type. -/
def aggT (P : Program) (t : TypeId) : Option Bool := (P.underlying t).map fun d => match d with | .struct _ | .array _ _ => true | _ => false
def sizeT (P : Program) (t : TypeId) : Option Nat := (P.info? t).map (·.size)
def zeroT (P : Program) (t : TypeId) : Option Value := (P.info? t).bind (·.zero)

theorem run_isAgg {P : Program} {t : TypeId} {b : Bool} (h : aggT P t = some b) (w : World) : (isAgg t).run P w = .ok b w := by
  unfold aggT at h
  cases hu : P.underlying t with
  | none => simp [hu] at h
  | some d =>
    simp [hu] at h
    unfold isAgg
    rw [Sem.run_bind, run_underlying hu w]
    cases d <;> simp_all
theorem run_sizeOf {P : Program} {t : TypeId} {n : Nat} (h : sizeT P t = some n) (w : World) : (sizeOf t).run P w = .ok n w := by
  unfold sizeT at h
  cases hq : P.info? t with
  | none => simp [hq] at h
  | some i => simp [hq] at h; simp [sizeOf, typeInfo, hq, h]
theorem run_zero {P : Program} {t : TypeId} {z : Value} (h : zeroT P t = some z) (w : World) : (zeroValue t).run P w = .ok z w := by
  unfold zeroT at h
  cases hq : P.info? t with
  | none => simp [hq] at h
  | some i => simp [hq] at h; simp [zeroValue, typeInfo, hq, h]

section
variable {P : Program} {w0 w : World} {F : Nat → Prop} {L M : List Res} {k : Value → World → Prop}

theorem Hp.alloc (H : Hp w0 F w L M) (t : TypeId) {z : Value} {cs : Array Value} (hz : zeroT P t = some z) (hcs : z.cells = cs)
    (h : ∀ g w', Hp w0 F w' (blk g t cs :: L) M → k (.pointer (some ⟨g, 0, none⟩)) w') : allocK P t w k := by
  unfold allocK
  refine ⟨_, w.alloc (.cells z.cells t), ?_, h w.heap.size _ (H.add (Keeps.alloc _ _) _ (by subst hcs; exact heap_alloc_new w _) ?_)⟩
  · simp [Instr.alloc, run_zero hz, newVar, newRow]
  · rintro g rfl; exact ⟨Nat.le_refl _, by simp⟩
theorem Hp.box (H : Hp w0 F w L M) (t : TypeId) (v : Value) {cs : Array Value} (hcs : v.cells = cs)
    (h : ∀ g w', Hp w0 F w' (blk g t cs :: L) M → k (.pointer (some ⟨g, 0, none⟩)) w') : boxK P t v w k := by
  unfold boxK
  refine ⟨_, w.alloc (.cells v.cells t), ?_, h w.heap.size _ (H.add (Keeps.alloc _ _) _ (by subst hcs; exact heap_alloc_new w _) ?_)⟩
  · simp [Instr.box, newVar, newRow]
  · rintro g rfl; exact ⟨Nat.le_refl _, by simp⟩

/-- A cell read. -/
theorem load_cell {a : Addr} {ty : TypeId} {u : Value} (hagg : aggT P ty = some false) (hc : w.cell? a = some u) (h : k u w) : loadK P ty (.pointer (some a)) w k := by
  unfold loadK
  refine ⟨u, w, ?_, h⟩
  simp [Instr.loadAt, Instr.sureAddr, loadVar, run_isAgg hagg, hc]
theorem Hp.load (H : Hp w0 F w L M) (n : Nat) {g i : Nat} {t ty : TypeId} {cs : Array Value} {u : Value} (hn : L[n]? = some (blk g t cs)) (hagg : aggT P ty = some false) (hc : cs[i]? = some u)
    (h : k u w) : loadK P ty (.pointer (some ⟨g, i, none⟩)) w k := load_cell hagg ((blk_cell (H.get n hn) i).trans hc) h
theorem Hp.loadAll (H : Hp w0 F w L M) (n : Nat) {g : Nat} {t ty : TypeId} {cs : Array Value} (hn : L[n]? = some (blk g t cs)) (hagg : aggT P ty = some true) (hs : sizeT P ty = some cs.size)
    (h : k (.agg cs) w) : loadK P ty (.pointer (some ⟨g, 0, none⟩)) w k := by
  unfold loadK
  refine ⟨_, w, ?_, h⟩
  have hb : w.heap[g]? = some (.cells cs t (0, 0)) := H.get n hn
  unfold aggT at hagg
  cases hu : P.underlying ty with
  | none => simp [hu] at hagg
  | some d =>
    simp [hu] at hagg
    have := run_loadVar_row (P := P) w g t ty cs (0, 0) d hb hu (by cases d <;> simp_all) hs
    simpa [Instr.loadAt, Instr.sureAddr] using this

theorem storeCells_run {P : Program} {g : Nat} {t : TypeId} (vs : List Value) : ∀ (w : World) (cs : Array Value) (i : Nat), w.heap[g]? = some (.cells cs t (0, 0)) → i + vs.length ≤ cs.size →
    (∀ v ∈ vs, v.oneCell' = true) → ∃ w', (storeCells ⟨g, 0, none⟩ vs i).run P w = .ok () w' ∧ Keeps (fun x => x = g) w w' ∧
      w'.heap[g]? = some (.cells (cs.toList.take i ++ vs ++ cs.toList.drop (i + vs.length)).toArray t (0, 0)) := by
  induction vs with
  | nil =>
    intro w cs i hb _ _
    refine ⟨w, by simp [storeCells], Keeps.refl _ _, ?_⟩
    simp [hb]
  | cons v vs ih =>
    intro w cs i hb hlen h1
    simp only [List.length_cons] at hlen
    have hadd : (⟨g, 0, none⟩ : Addr).add i = ⟨g, i, none⟩ := by unfold Addr.add; split <;> simp_all
    have hcell : w.cell? ⟨g, i, none⟩ = some cs[i] := by rw [cell_of_row w g i cs t (0, 0) hb]; exact Array.getElem?_eq_getElem (by omega)
    have hfz : w.frozen? ⟨g, i, none⟩ = false := frozen_of_row w g i cs t hb
    have hb' := heap_setCell_same w g i cs t v hb
    obtain ⟨w', hr, hk, hb2⟩ := ih (w.setCell ⟨g, i, none⟩ v) (cs.setIfInBounds i v) (i + 1) hb' (by simp; omega) (fun u hu => h1 u (.tail _ hu))
    refine ⟨w', ?_, (Keeps.setCell w ⟨g, i, none⟩ v).trans hk (fun _ _ h => h), ?_⟩
    · have hs := run_store P w ⟨g, i, none⟩ v .plain (h1 v (.head _))
      simp [storeCells, hadd, hs, hcell, hfz, hr]
    · rw [hb2]
      congr 3
      simp only [Array.toList_setIfInBounds, List.length_cons]
      rw [List.take_set, List.drop_set_of_lt (by omega)]
      have : (cs.toList.take (i + 1)).set i v = cs.toList.take i ++ [v] := by
        rw [List.take_succ_eq_append_getElem (by simpa using (by omega : i < cs.size))]
        rw [List.set_append_right _ _ (by simp; omega)]
        simp [Nat.min_eq_left (by omega : i ≤ cs.size)]
      rw [this]
      simp [Nat.add_assoc, Nat.add_comm 1]

theorem Hp.store (H : Hp w0 F w L M) (n : Nat) {g i : Nat} {t ty : TypeId} {cs : Array Value} {u : Value} (hn : L[n]? = some (blk g t cs)) (hs : sizeT P ty = some 1) (hi : i < cs.size) (h1 : u.oneCell' = true)
    (h : ∀ w', Hp w0 F w' (L.set n (blk g t (cs.setIfInBounds i u))) M → k undef w') : storeK P ty (.pointer (some ⟨g, i, none⟩)) u w k := by
  have hb : w.heap[g]? = some (.cells cs t (0, 0)) := H.get n hn
  have hcell : w.cell? ⟨g, i, none⟩ = some cs[i] := by rw [cell_of_row w g i cs t (0, 0) hb]; exact Array.getElem?_eq_getElem hi
  have hfz : w.frozen? ⟨g, i, none⟩ = false := frozen_of_row w g i cs t hb
  have hcells : u.cells = #[u] := by cases u <;> first | rfl | cases h1
  unfold storeK
  refine ⟨w.setCell ⟨g, i, none⟩ u, ?_, h _ (H.turn n hn _ (Keeps.setCell w ⟨g, i, none⟩ u) (heap_setCell_same w g i cs t u hb) ?_)⟩
  · have hst := run_store P w ⟨g, i, none⟩ u .plain h1
    have hadd : (⟨g, i, none⟩ : Addr).add 0 = ⟨g, i, none⟩ := by simp [Addr.add]
    simp [Instr.storeAt, Instr.sureAddr, storeVar, hcells, run_sizeOf hs, storeCells, hadd, hst, hcell, hfz]
  · rintro x rfl; exact ⟨by simpa using blk_lt (H.get n hn), .inl rfl⟩

theorem Hp.storeAll (H : Hp w0 F w L M) (n : Nat) {g : Nat} {t ty : TypeId} {cs cs' : Array Value} (hn : L[n]? = some (blk g t cs)) (hs : sizeT P ty = some cs.size) (hs' : cs'.size = cs.size) (h1 : ∀ v ∈ cs'.toList, v.oneCell' = true)
    (h : ∀ w', Hp w0 F w' (L.set n (blk g t cs')) M → k undef w') : storeK P ty (.pointer (some ⟨g, 0, none⟩)) (.agg cs') w k := by
  have hb : w.heap[g]? = some (.cells cs t (0, 0)) := H.get n hn
  obtain ⟨w', hr, hk, hb'⟩ := storeCells_run (P := P) cs'.toList w cs 0 hb (by simp; omega) h1
  unfold storeK
  refine ⟨w', ?_, h _ (H.turn n hn _ hk ?_ ?_)⟩
  · simp [Instr.storeAt, Instr.sureAddr, storeVar, Value.cells, run_sizeOf hs, hs', hr]
  · show w'.heap[g]? = _
    rw [hb']
    have : cs.toList.drop (0 + cs'.toList.length) = [] := by rw [List.drop_eq_nil_iff]; simp; omega
    rw [this]; simp
  · rintro x rfl
    refine ⟨?_, .inl rfl⟩
    exact Nat.lt_of_lt_of_le (blk_lt (H.get n hn)) hk.size

/-- A call. -/
theorem call_fn {g : FuncId} {args : List Value} {post : Value → World → Prop} (hc : Fun P g args w post)
    (h : ∀ v w', post v w' → k v w') : callK P (.func (.func g) #[] #[]) args w k := by
  unfold callK
  have : (#[] : Array Value).toList ++ args ++ (#[] : Array Value).toList = args := by simp
  show Fun P g _ w k
  rw [this]
  exact hc.mono h
theorem call_clo {g : FuncId} {args cap : List Value} {post : Value → World → Prop} (hc : Fun P g (args ++ cap) w post)
    (h : ∀ v w', post v w' → k v w') : callK P (.func (.func g) #[] cap.toArray) args w k := by
  unfold callK
  show Fun P g _ w k
  simpa using hc.mono h
theorem cond_split {b : Bool} {p q : Prop} (hp : b = true → p) (hq : b = false → q) : condB b p q := by
  cases h : b
  · exact .no rfl (hq h)
  · exact .yes rfl (hp h)
theorem cond_yes {b : Bool} {p q : Prop} (hb : b = true) (hp : p) : condB b p q := .yes hb hp
theorem cond_no {b : Bool} {p q : Prop} (hb : b = false) (hq : q) : condB b p q := .no hb hq
end
end Go.Dk

import Derived.Test.YtjebpngdinbckaaM
/- Arenas: plain lemmas, nothing of Go. -/
namespace Go.Dk

/-- A node: its level, and the ids of its two halves. -/
structure Nd where
  l : Nat
  lo : Nat
  hi : Nat
  deriving DecidableEq
/-- The nodes of an arena: the one in place i has id i + 2; none: free. -/
abbrev Ar := List (Option Nd)
def slot (A : Ar) (i : Nat) : Option Nd := A.getD i none
def lvlA (A : Ar) (id : Int) : Int := if id = 0 ∨ id = 1 then 24 else if 2 ≤ id then (match slot A (id - 2).toNat with | some n => (n.l : Int) | none => -1) else -1
def findA (A : Ar) (n : Nd) : Option Nat := A.findIdx? fun x => x == some n
def liveA (A : Ar) : Nat := A.countP (·.isSome)
def freeA (A : Ar) : Nat := A.findIdx (·.isNone)
def putA (A : Ar) (n : Nd) : Ar := if freeA A = A.length then A ++ [some n] else A.set (freeA A) (some n)
/-- Each node once. -/
def Uniq (A : Ar) : Prop := ∀ i j n, slot A i = some n → slot A j = some n → i = j
def mkA (room : Int) (A : Ar) (l lo hi : Int) : Ar × Int × Int :=
  if l < 0 ∨ lvlA A lo ≤ l ∨ lvlA A hi ≤ l then (A, 0, 1)
  else match findA A ⟨l.toNat, lo.toNat, hi.toNat⟩ with
    | some i => (A, ((i + 2 : Nat) : Int), 0)
    | none => if room ≤ (liveA A : Int) then (A, 0, 5) else (putA A ⟨l.toNat, lo.toNat, hi.toNat⟩, ((freeA A + 2 : Nat) : Int), 0)

theorem slot_lt {A : Ar} {i : Nat} {n : Nd} (h : slot A i = some n) : i < A.length := by
  unfold slot at h
  rw [List.getD_eq_getElem?_getD] at h
  by_cases hi : i < A.length
  · exact hi
  · rw [List.getElem?_eq_none (by omega)] at h; cases h
theorem slot_get {A : Ar} {i : Nat} (h : i < A.length) : A[i]? = some (slot A i) := by
  unfold slot; rw [List.getD_eq_getElem?_getD, List.getElem?_eq_getElem h]; rfl
theorem slot_none {A : Ar} {i : Nat} (h : A.length ≤ i) : slot A i = none := by
  unfold slot; rw [List.getD_eq_getElem?_getD, List.getElem?_eq_none h]; rfl
theorem slot_set {A : Ar} {i : Nat} (hi : i < A.length) (x : Option Nd) (j : Nat) : slot (A.set i x) j = if j = i then x else slot A j := by
  unfold slot
  rw [List.getD_eq_getElem?_getD, List.getD_eq_getElem?_getD, List.getElem?_set]
  by_cases h : i = j
  · subst h; simp [hi]
  · simp [h, Ne.symm h]
theorem slot_snoc (A : Ar) (x : Option Nd) (j : Nat) : slot (A ++ [x]) j = if j = A.length then x else slot A j := by
  unfold slot
  rw [List.getD_eq_getElem?_getD, List.getD_eq_getElem?_getD]
  by_cases h : j < A.length
  · rw [List.getElem?_append_left h, if_neg (by omega)]
  · rw [List.getElem?_append_right (by omega)]
    by_cases h2 : j = A.length
    · subst h2; simp
    · rw [if_neg h2, List.getElem?_eq_none (by simp; omega), List.getElem?_eq_none (by omega)]
theorem freeA_le (A : Ar) : freeA A ≤ A.length := List.findIdx_le_length
theorem slot_free (A : Ar) : slot A (freeA A) = none := by
  by_cases h : freeA A < A.length
  · have := List.findIdx_getElem (w := h)
    have e : A[freeA A]? = some A[freeA A] := List.getElem?_eq_getElem h
    rw [slot_get h] at e
    injection e with e
    rw [e]
    have h' : (A[freeA A]).isNone = true := this
    simpa using h'
  · exact slot_none (by omega)
theorem slot_before {A : Ar} {i : Nat} (h : i < freeA A) : ∃ n, slot A i = some n := by
  have h1 := List.not_of_lt_findIdx h
  have hl : i < A.length := Nat.lt_of_lt_of_le h (freeA_le A)
  have e : A[i]? = some A[i] := List.getElem?_eq_getElem hl
  rw [slot_get hl] at e
  injection e with e
  rw [e]
  cases hx : A[i] with
  | none => simp [hx] at h1
  | some n => exact ⟨n, rfl⟩
theorem slot_put (A : Ar) (n : Nd) (j : Nat) : slot (putA A n) j = if j = freeA A then some n else slot A j := by
  unfold putA
  split
  · rename_i h; rw [slot_snoc, h]
  · rename_i h; exact slot_set (by have := freeA_le A; omega) _ _
theorem putA_length (A : Ar) (n : Nd) : (putA A n).length = if freeA A = A.length then A.length + 1 else A.length := by
  unfold putA; split <;> simp
theorem findA_none {A : Ar} {n : Nd} : findA A n = none ↔ ∀ i, slot A i ≠ some n := by
  unfold findA
  rw [List.findIdx?_eq_none_iff]
  constructor
  · intro h i hi
    have hl := slot_lt hi
    have := h _ (List.mem_of_getElem? (slot_get hl))
    simp [hi] at this
  · intro h x hx
    obtain ⟨i, hi⟩ := List.mem_iff_getElem?.1 hx
    have hl := (List.getElem?_eq_some_iff.1 hi).1
    rw [slot_get hl] at hi
    injection hi with hi
    have := h i
    rw [hi] at this
    simpa using this
theorem findA_slot {A : Ar} {n : Nd} {i : Nat} (h : findA A n = some i) : slot A i = some n := by
  unfold findA at h
  rw [List.findIdx?_eq_some_iff_getElem] at h
  obtain ⟨hl, hp, _⟩ := h
  have e : A[i]? = some A[i] := List.getElem?_eq_getElem hl
  rw [slot_get hl] at e
  injection e with e
  rw [e]; simpa using hp
theorem findA_some {A : Ar} (hu : Uniq A) {n : Nd} {i : Nat} : findA A n = some i ↔ slot A i = some n := by
  constructor
  · exact findA_slot
  · intro h
    cases hf : findA A n with
    | none => exact absurd h (findA_none.1 hf i)
    | some j => rw [hu j i n (findA_slot hf) h]
theorem liveA_put (A : Ar) (n : Nd) : liveA (putA A n) = liveA A + 1 := by
  unfold putA liveA
  split
  · simp
  · rename_i h
    have hl : freeA A < A.length := by have := freeA_le A; omega
    have hs := slot_free A
    rw [List.countP_set hl]
    have e : A[freeA A] = none := by
      have e : A[freeA A]? = some A[freeA A] := List.getElem?_eq_getElem hl
      rw [slot_get hl, hs] at e
      injection e with e; exact e.symm
    simp [e]
theorem liveA_clear {A : Ar} {i : Nat} {n : Nd} (h : slot A i = some n) : liveA (A.set i none) + 1 = liveA A := by
  unfold liveA
  have hl := slot_lt h
  have e : A[i] = some n := by
    have e : A[i]? = some A[i] := List.getElem?_eq_getElem hl
    rw [slot_get hl, h] at e
    injection e with e; exact e.symm
  rw [List.countP_set hl]
  have : 0 < A.countP (·.isSome) := List.countP_pos_iff.2 ⟨A[i], List.getElem_mem hl, by simp [e]⟩
  simp [e]
  omega
theorem uniq_put {A : Ar} (hu : Uniq A) {n : Nd} (hn : findA A n = none) : Uniq (putA A n) := by
  intro i j m hi hj
  rw [slot_put] at hi hj
  split at hi <;> split at hj
  · omega
  · injection hi with hi; subst hi; exact absurd hj (findA_none.1 hn j)
  · injection hj with hj; subst hj; exact absurd hi (findA_none.1 hn i)
  · exact hu i j m hi hj
theorem uniq_clear {A : Ar} (hu : Uniq A) {i : Nat} : Uniq (A.set i none) := by
  intro a b m ha hb
  by_cases hl : i < A.length
  · rw [slot_set hl] at ha hb
    split at ha
    · cases ha
    · split at hb
      · cases hb
      · exact hu a b m ha hb
  · rw [List.set_eq_of_length_le (by omega)] at ha hb; exact hu a b m ha hb

/-- The ids that an arena remembers. -/
structure IdsOk (l : List (Nd × Nat)) (A : Ar) : Prop where
  get : ∀ n, aget l n = (findA A n).map (· + 2)
  len : l.length = liveA A
theorem ids_put {l : List (Nd × Nat)} {A : Ar} (h : IdsOk l A) (hu : Uniq A) {n : Nd} (hn : findA A n = none) : IdsOk (aset l n (freeA A + 2)) (putA A n) := by
  have hu' := uniq_put hu hn
  refine ⟨fun c => ?_, ?_⟩
  · rw [aget_aset, h.get]
    split
    · rename_i hc; subst hc
      have : findA (putA A c) c = some (freeA A) := (findA_some hu').2 (by rw [slot_put]; simp)
      rw [this]; rfl
    · rename_i hc
      congr 1
      cases hf : findA A c with
      | none =>
        refine (findA_none.2 fun i hi => ?_).symm
        rw [slot_put] at hi
        split at hi
        · injection hi with hi; exact hc hi.symm
        · exact findA_none.1 hf i hi
      | some i =>
        have hi := findA_slot hf
        refine ((findA_some hu').2 ?_).symm
        rw [slot_put, if_neg, hi]
        intro e; subst e; rw [slot_free] at hi; cases hi
  · rw [aset_length, h.get, hn]
    simp [h.len, liveA_put]
theorem adel_length {α β : Type} [DecidableEq α] {l : List (α × β)} (hn : (akeys l).Nodup) {a : α} {b : β} (h : aget l a = some b) : (adel l a).length + 1 = l.length := by
  obtain ⟨j, hj⟩ := List.mem_iff_getElem?.1 (aget_mem h)
  have := eraseIdx_adel hn hj
  have hl := (List.getElem?_eq_some_iff.1 hj).1
  rw [← this, List.length_eraseIdx_of_lt hl]
  omega
theorem ids_clear {l : List (Nd × Nat)} {A : Ar} (h : IdsOk l A) (hn : (akeys l).Nodup) (hu : Uniq A) {i : Nat} {n : Nd} (hi : slot A i = some n) : IdsOk (adel l n) (A.set i none) := by
  have hl := slot_lt hi
  have hu' : Uniq (A.set i none) := uniq_clear hu
  refine ⟨fun c => ?_, ?_⟩
  · rw [aget_adel, h.get]
    split
    · rename_i hc; subst hc
      have : findA (A.set i none) c = none := findA_none.2 fun j hj => by
        rw [slot_set hl] at hj
        split at hj
        · cases hj
        · rename_i hne; exact hne (hu j i c hj hi)
      rw [this]; rfl
    · rename_i hc
      congr 1
      cases hf : findA A c with
      | none =>
        refine (findA_none.2 fun j hj => ?_).symm
        rw [slot_set hl] at hj
        split at hj
        · cases hj
        · exact findA_none.1 hf j hj
      | some j =>
        have hj := findA_slot hf
        refine ((findA_some hu').2 ?_).symm
        rw [slot_set hl, if_neg, hj]
        intro e; subst e; rw [hi] at hj; injection hj with hj; exact hc hj.symm
  · have hg : aget l n = some (i + 2) := by rw [h.get, (findA_some hu).2 hi]; rfl
    have h1 := adel_length hn hg
    have h2 := liveA_clear hi
    have h3 := h.len
    omega
/-! ### What is come to -/
inductive Rch (A : Ar) : Int → Nat → Prop where
  | self {i : Nat} {n : Nd} : slot A i = some n → Rch A ((i : Int) + 2) i
  | lo {i x : Nat} {n : Nd} : slot A i = some n → Rch A (n.lo : Int) x → Rch A ((i : Int) + 2) x
  | hi {i x : Nat} {n : Nd} : slot A i = some n → Rch A (n.hi : Int) x → Rch A ((i : Int) + 2) x
theorem Rch.slot {A : Ar} {id : Int} {x : Nat} (h : Rch A id x) : ∃ n, slot A x = some n := by
  induction h with
  | self h => exact ⟨_, h⟩
  | lo _ _ ih => exact ih
  | hi _ _ ih => exact ih
theorem Rch.start {A : Ar} {id : Int} {x : Nat} (h : Rch A id x) : ∃ (i : Nat) (n : Nd), id = (i : Int) + 2 ∧ Dk.slot A i = some n := by
  cases h with
  | self h => exact ⟨_, _, rfl, h⟩
  | lo h _ => exact ⟨_, _, rfl, h⟩
  | hi h _ => exact ⟨_, _, rfl, h⟩
theorem Rch.trans {A : Ar} {id : Int} {x y : Nat} (h : Rch A id x) (k : Rch A ((x : Int) + 2) y) : Rch A id y := by
  induction h with
  | self _ => exact k
  | lo h _ ih => exact .lo h (ih k)
  | hi h _ ih => exact .hi h (ih k)
theorem rch_iff {A : Ar} {i x : Nat} {n : Nd} (h : slot A i = some n) : Rch A ((i : Int) + 2) x ↔ x = i ∨ Rch A (n.lo : Int) x ∨ Rch A (n.hi : Int) x := by
  constructor
  · intro hr
    generalize hid : ((i : Int) + 2) = id at hr
    cases hr with
    | self h' => left; omega
    | lo h' hr =>
      rename_i j n'
      obtain rfl : i = j := by omega
      rw [h] at h'; injection h' with h'; subst h'; exact .inr (.inl hr)
    | hi h' hr =>
      rename_i j n'
      obtain rfl : i = j := by omega
      rw [h] at h'; injection h' with h'; subst h'; exact .inr (.inr hr)
  · rintro (rfl | h' | h')
    · exact .self h
    · exact .lo h h'
    · exact .hi h h'

/-- What an arena keeps to: each node once, and levels rise. -/
structure ArInv (A : Ar) : Prop where
  uniq : Uniq A
  lev : ∀ i n, slot A i = some n → (n.l : Int) < lvlA A n.lo ∧ (n.l : Int) < lvlA A n.hi
  top : ∀ i n, slot A i = some n → n.l < 24
theorem lvlA_le {A : Ar} (h : ArInv A) (id : Int) : lvlA A id ≤ 24 := by
  unfold lvlA
  split
  · omega
  · split
    · split
      · rename_i n hn; have := h.top _ n hn; omega
      · omega
    · omega
theorem lvlA_slot {A : Ar} {i : Nat} {n : Nd} (h : slot A i = some n) : lvlA A ((i : Int) + 2) = n.l := by
  unfold lvlA
  rw [if_neg (by omega), if_pos (by omega), show ((i : Int) + 2 - 2).toNat = i by omega, h]
theorem lvlA_node {A : Ar} {id : Int} (h : 0 ≤ lvlA A id) : id = 0 ∨ id = 1 ∨ ∃ (i : Nat) (n : Nd), id = (i : Int) + 2 ∧ slot A i = some n ∧ lvlA A id = n.l := by
  by_cases h0 : id = 0 ∨ id = 1
  · rcases h0 with h0 | h0
    · exact .inl h0
    · exact .inr (.inl h0)
  · right; right
    have h' := h
    unfold lvlA at h'
    rw [if_neg h0] at h'
    by_cases h2 : 2 ≤ id
    · rw [if_pos h2] at h'
      obtain ⟨i, rfl⟩ : ∃ i : Nat, id = (i : Int) + 2 := ⟨(id - 2).toNat, by omega⟩
      rw [show ((i : Int) + 2 - 2).toNat = i by omega] at h'
      cases hs : slot A i with
      | none => rw [hs] at h'; simp at h'
      | some n => exact ⟨i, n, rfl, hs, lvlA_slot hs⟩
    · rw [if_neg h2] at h'; omega
theorem lvlA_put {A : Ar} (n : Nd) {id : Int} (h : id ≠ (freeA A : Int) + 2) : lvlA (putA A n) id = lvlA A id := by
  unfold lvlA
  split
  · rfl
  · split
    · rename_i h2
      rw [slot_put, if_neg (by omega)]
    · rfl
theorem lvlA_free (A : Ar) : lvlA A ((freeA A : Int) + 2) = -1 := by
  unfold lvlA
  rw [if_neg (by omega), if_pos (by omega), show ((freeA A : Int) + 2 - 2).toNat = freeA A by omega, slot_free]
theorem inv_put {A : Ar} (h : ArInv A) {n : Nd} (hn : findA A n = none) (h1 : (n.l : Int) < lvlA A n.lo) (h2 : (n.l : Int) < lvlA A n.hi) : ArInv (putA A n) := by
  have hne : ∀ id : Int, 0 ≤ lvlA A id → id ≠ (freeA A : Int) + 2 := by
    rintro id hid rfl
    rw [lvlA_free] at hid; omega
  refine ⟨uniq_put h.uniq hn, fun i m hi => ?_, fun i m hi => ?_⟩
  · rw [slot_put] at hi
    split at hi
    · injection hi with hi; subst hi
      rw [lvlA_put _ (hne _ (by omega)), lvlA_put _ (hne _ (by omega))]; exact ⟨h1, h2⟩
    · have := h.lev i m hi
      rw [lvlA_put _ (hne _ (by omega)), lvlA_put _ (hne _ (by omega))]; exact this
  · rw [slot_put] at hi
    split at hi
    · injection hi with hi; subst hi
      have := lvlA_le h n.lo; omega
    · exact h.top i m hi

def markA (A : Ar) : Nat → Int → List Bool → List Bool
  | 0, _, m => m
  | f + 1, id, m =>
    match (if 2 ≤ id then slot A (id - 2).toNat else none) with
    | none => m
    | some n => if m.getD (id - 2).toNat false then m else markA A f n.hi (markA A f n.lo (m.set (id - 2).toNat true))
theorem markA_length (A : Ar) : ∀ (f : Nat) (id : Int) (m : List Bool), (markA A f id m).length = m.length
  | 0, _, _ => rfl
  | f + 1, id, m => by
    unfold markA
    split
    · rfl
    · split
      · rfl
      · rw [markA_length A f, markA_length A f, List.length_set]
def mb (m : List Bool) (i : Nat) : Bool := m.getD i false
/-- Of marked nodes from a level on all that is come to is marked. -/
def Clo (A : Ar) (m : List Bool) (L : Int) : Prop := ∀ i n, mb m i = true → slot A i = some n → L ≤ n.l → ∀ x, Rch A ((i : Int) + 2) x → mb m x = true
theorem mb_set {m : List Bool} {i : Nat} (hi : i < m.length) (j : Nat) : mb (m.set i true) j = if j = i then true else mb m j := by
  unfold mb
  rw [List.getD_eq_getElem?_getD, List.getD_eq_getElem?_getD, List.getElem?_set]
  by_cases h : i = j
  · subst h; simp [hi]
  · simp [h, Ne.symm h]
theorem mark_spec {A : Ar} (h : ArInv A) : ∀ (f : Nat) (id : Int) (m : List Bool), 24 - lvlA A id < f → m.length = A.length → Clo A m (lvlA A id) →
    ∀ x, mb (markA A f id m) x = true ↔ mb m x = true ∨ Rch A id x
  | 0, id, m, hf, _, _, x => by have := lvlA_le h id; omega
  | f + 1, id, m, hf, hm, hc, x => by
    unfold markA
    split
    · rename_i hs
      constructor
      · exact .inl
      · rintro (h' | h')
        · exact h'
        · obtain ⟨i, n, rfl, hi⟩ := h'.start
          rw [if_pos (by omega), show ((i : Int) + 2 - 2).toNat = i by omega, hi] at hs; cases hs
    · rename_i n hs
      have h2 : 2 ≤ id := by
        by_cases h2 : 2 ≤ id
        · exact h2
        · rw [if_neg h2] at hs; cases hs
      obtain ⟨i, rfl⟩ : ∃ i : Nat, id = (i : Int) + 2 := ⟨(id - 2).toNat, by omega⟩
      rw [if_pos h2] at hs
      simp only [show ((i : Int) + 2 - 2).toNat = i by omega] at hs ⊢
      have hl := lvlA_slot hs
      have hlev := h.lev i n hs
      rw [hl] at hc hf
      split
      · rename_i hmi
        constructor
        · exact .inl
        · rintro (h' | h')
          · exact h'
          · exact hc i n hmi hs (Int.le_refl _) x h'
      · rename_i hmi
        have hi : i < m.length := by rw [hm]; exact slot_lt hs
        have hlen1 : (m.set i true).length = A.length := by rw [List.length_set]; exact hm
        have hc1 : Clo A (m.set i true) (n.l + 1) := by
          intro j n' hj hn' hL y hy
          rw [mb_set hi] at hj ⊢
          split
          · rfl
          · split at hj
            · rename_i hji; subst hji; rw [hs] at hn'; injection hn' with hn'; subst hn'; omega
            · exact hc j n' hj hn' (by omega) y hy
        have e1 := mark_spec h f n.lo (m.set i true) (by omega) hlen1 (fun j n' hj hn' hL => hc1 j n' hj hn' (by omega))
        have hlen2 : (markA A f n.lo (m.set i true)).length = A.length := by rw [markA_length]; exact hlen1
        have hc2 : Clo A (markA A f n.lo (m.set i true)) (n.l + 1) := by
          intro j n' hj hn' hL y hy
          rw [e1] at hj ⊢
          rcases hj with hj | hj
          · exact .inl (hc1 j n' hj hn' hL y hy)
          · exact .inr (hj.trans hy)
        have e2 := mark_spec h f n.hi (markA A f n.lo (m.set i true)) (by omega) hlen2 (fun j n' hj hn' hL => hc2 j n' hj hn' (by omega))
        rw [e2, e1, mb_set hi, rch_iff hs]
        by_cases hx : x = i
        · subst hx; simp
        · simp [hx, or_assoc]
theorem clo_mark {A : Ar} (h : ArInv A) {f : Nat} {id : Int} {m : List Bool} (hf : 24 - lvlA A id < f) (hm : m.length = A.length) (hc : Clo A m 0) : Clo A (markA A f id m) 0 := by
  intro i n hi hn hL x hx
  have hs := mark_spec h f id m hf hm
  by_cases hl : 0 ≤ lvlA A id
  · have e := hs (fun j n' hj hn' hL' => hc j n' hj hn' (by omega))
    rw [e] at hi ⊢
    rcases hi with hi | hi
    · exact .inl (hc i n hi hn hL x hx)
    · exact .inr (hi.trans hx)
  · have e := hs (fun j n' hj hn' hL' => hc j n' hj hn' (by omega))
    rw [e] at hi ⊢
    rcases hi with hi | hi
    · exact .inl (hc i n hi hn hL x hx)
    · exact .inr (hi.trans hx)
/-- The marks behind several ids. -/
def marksA (A : Ar) (ids : List Int) : List Bool := ids.foldl (fun m id => markA A 26 id m) (List.replicate A.length false)
theorem marks_fold {A : Ar} (h : ArInv A) : ∀ (ids : List Int) (m : List Bool), m.length = A.length → Clo A m 0 →
    (ids.foldl (fun m id => markA A 26 id m) m).length = A.length ∧ ∀ x, mb (ids.foldl (fun m id => markA A 26 id m) m) x = true ↔ mb m x = true ∨ ∃ id ∈ ids, Rch A id x
  | [], m, hm, _ => ⟨hm, fun x => by simp⟩
  | id :: ids, m, hm, hc => by
    have hf : 24 - lvlA A id < (26 : Nat) := by
      have : -1 ≤ lvlA A id := by unfold lvlA; split; · omega
                                  · split
                                    · split <;> omega
                                    · omega
      omega
    have hc0 : Clo A m (lvlA A id) := by
      intro i n hi hn hL; exact hc i n hi hn (by omega)
    have e := mark_spec h 26 id m hf hm hc0
    obtain ⟨h1, h2⟩ := marks_fold h ids (markA A 26 id m) (by rw [markA_length]; exact hm) (clo_mark h hf hm hc)
    refine ⟨h1, fun x => ?_⟩
    rw [List.foldl_cons, h2, e]
    simp [or_assoc]
theorem mb_replicate (n i : Nat) : mb (List.replicate n false) i = false := by
  unfold mb
  rw [List.getD_eq_getElem?_getD, List.getElem?_replicate]
  split <;> rfl
theorem marks_spec {A : Ar} (h : ArInv A) (ids : List Int) : (marksA A ids).length = A.length ∧ ∀ x, mb (marksA A ids) x = true ↔ ∃ id ∈ ids, Rch A id x := by
  have := marks_fold h ids (List.replicate A.length false) (by simp) (fun i n hi => by rw [mb_replicate] at hi; cases hi)
  refine ⟨this.1, fun x => ?_⟩
  rw [marksA, this.2, mb_replicate]; simp

/-! ### A sweep -/
def sweepTo (A : Ar) (m : List Bool) : Nat → Ar
  | 0 => A
  | k + 1 => if mb m k then sweepTo A m k else (sweepTo A m k).set k none
def sweepA (A : Ar) (ids : List Int) : Ar := sweepTo A (marksA A ids) A.length
theorem sweepTo_length (A : Ar) (m : List Bool) (k : Nat) : (sweepTo A m k).length = A.length := by
  induction k with
  | zero => rfl
  | succ k ih => unfold sweepTo; split <;> simp [ih]
theorem slot_sweepTo (A : Ar) (m : List Bool) (k j : Nat) : slot (sweepTo A m k) j = if j < k ∧ mb m j = false then none else slot A j := by
  induction k with
  | zero => simp [sweepTo]
  | succ k ih =>
    unfold sweepTo
    split
    · rename_i hk
      rw [ih]
      by_cases hj : j = k
      · subst hj; simp [hk]
      · have : j < k ↔ j < k + 1 := by omega
        simp [this]
    · rename_i hk
      by_cases hl : k < (sweepTo A m k).length
      · rw [slot_set hl, ih]
        by_cases hj : j = k
        · subst hj; simp at hk; simp [hk]
        · have : j < k ↔ j < k + 1 := by omega
          simp [this, hj]
      · rw [List.set_eq_of_length_le (by omega), ih]
        by_cases hj : j = k
        · subst hj
          rw [sweepTo_length] at hl
          simp [slot_none (show A.length ≤ j by omega)]
        · have : j < k ↔ j < k + 1 := by omega
          simp [this]
theorem slot_sweep {A : Ar} (h : ArInv A) (ids : List Int) (j : Nat) (n : Nd) : slot (sweepA A ids) j = some n ↔ slot A j = some n ∧ ∃ id ∈ ids, Rch A id j := by
  unfold sweepA
  rw [slot_sweepTo, ← (marks_spec h ids).2]
  split
  · rename_i hj; simp [hj.2]
  · rename_i hj
    constructor
    · intro hs
      have := slot_lt hs
      refine ⟨hs, ?_⟩
      cases hm : mb (marksA A ids) j
      · exact absurd ⟨this, hm⟩ hj
      · rfl
    · exact fun hs => hs.1
theorem inv_sweep {A : Ar} (h : ArInv A) (ids : List Int) : ArInv (sweepA A ids) := by
  have key : ∀ id : Int, 0 ≤ lvlA A id → (∀ i : Nat, id = (i : Int) + 2 → ∃ k ∈ ids, Rch A k i) → lvlA (sweepA A ids) id = lvlA A id := by
    intro id hid hk
    rcases lvlA_node hid with rfl | rfl | ⟨i, n, rfl, hi, hl⟩
    · rfl
    · rfl
    · rw [hl]; exact lvlA_slot ((slot_sweep h ids i n).2 ⟨hi, hk i rfl⟩)
  refine ⟨fun i j n hi hj => h.uniq i j n ((slot_sweep h ids i n).1 hi).1 ((slot_sweep h ids j n).1 hj).1, fun i n hi => ?_, fun i n hi => h.top i n ((slot_sweep h ids i n).1 hi).1⟩
  obtain ⟨hs, k, hk, hr⟩ := (slot_sweep h ids i n).1 hi
  have hl := h.lev i n hs
  have hto : ∀ c : Nat, 0 ≤ lvlA A c → (c = n.lo ∨ c = n.hi) → ∀ j : Nat, (c : Int) = (j : Int) + 2 → ∃ k ∈ ids, Rch A k j := by
    intro c hc hcc j hj
    refine ⟨k, hk, hr.trans ?_⟩
    rcases lvlA_node hc with h0 | h0 | ⟨j', n', hj', hsl, _⟩
    · omega
    · omega
    · obtain rfl : j = j' := by omega
      have hself : Rch A (c : Int) j := by rw [hj]; exact .self hsl
      rcases hcc with rfl | rfl
      · exact .lo hs hself
      · exact .hi hs hself
  rw [key n.lo (by omega) (hto n.lo (by omega) (.inl rfl)), key n.hi (by omega) (hto n.hi (by omega) (.inr rfl))]
  exact hl
end Go.Dk

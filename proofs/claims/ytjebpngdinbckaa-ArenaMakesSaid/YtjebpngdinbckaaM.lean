import Derived.Test.YtjebpngdinbckaaL
import Derived.MapKept
import Derived.DeepKeys5
/- Maps: what they hold, and the operations on them. -/
namespace Go.Dk
open Go.MapKept (Stamped)

/-! ### Plain: lists of keys and values -/
section
variable {α β : Type} [DecidableEq α]
def aget (l : List (α × β)) (a : α) : Option β := (l.find? fun p => decide (p.1 = a)).map (·.2)
def aset (l : List (α × β)) (a : α) (b : β) : List (α × β) :=
  if (aget l a).isSome then l.map fun p => if p.1 = a then (a, b) else p else l ++ [(a, b)]
def adel (l : List (α × β)) (a : α) : List (α × β) := l.filter fun p => !decide (p.1 = a)
def akeys (l : List (α × β)) : List α := l.map (·.1)

theorem aget_none {l : List (α × β)} {a : α} : aget l a = none ↔ ∀ p ∈ l, p.1 ≠ a := by
  unfold aget
  rw [Option.map_eq_none_iff, List.find?_eq_none]
  simp
theorem aget_mem {l : List (α × β)} {a : α} {b : β} (h : aget l a = some b) : (a, b) ∈ l := by
  unfold aget at h
  rw [Option.map_eq_some_iff] at h
  obtain ⟨p, hp, rfl⟩ := h
  have h1 := List.find?_some hp
  have h2 := List.mem_of_find?_eq_some hp
  simp at h1
  subst h1
  exact h2
theorem aget_of_mem {l : List (α × β)} (hn : (akeys l).Nodup) {a : α} {b : β} (h : (a, b) ∈ l) : aget l a = some b := by
  induction l with
  | nil => cases h
  | cons p l ih =>
    simp only [akeys, List.map_cons, List.nodup_cons] at hn
    rcases List.mem_cons.1 h with rfl | h
    · simp [aget]
    · have hne : p.1 ≠ a := fun e => hn.1 (by rw [e]; exact List.mem_map.2 ⟨_, h, rfl⟩)
      have := ih hn.2 h
      simpa [aget, List.find?_cons, hne] using this
theorem aget_nil (a : α) : aget ([] : List (α × β)) a = none := rfl
theorem aget_map (l : List (α × β)) (a c : α) (b : β) : aget (l.map fun p => if p.1 = a then (a, b) else p) c = if c = a then (aget l c).map (fun _ => b) else aget l c := by
  induction l with
  | nil => simp [aget]
  | cons p l ih =>
    by_cases hp : p.1 = c
    · subst hp
      by_cases hc : p.1 = a
      · simp [aget, List.find?_cons, hc]
      · simp [aget, List.find?_cons, hc]
    · have e1 : aget (p :: l) c = aget l c := by simp [aget, List.find?_cons, hp]
      have e2 : aget ((p :: l).map fun p => if p.1 = a then (a, b) else p) c = aget (l.map fun p => if p.1 = a then (a, b) else p) c := by
        by_cases hc : p.1 = a
        · have : ¬ a = c := fun h => hp (hc.trans h)
          simp [aget, List.find?_cons, hc, this]
        · simp [aget, List.find?_cons, hc, hp]
      rw [e1, e2, ih]
theorem aget_append (l m : List (α × β)) (c : α) : aget (l ++ m) c = (aget l c).or (aget m c) := by
  unfold aget
  rw [List.find?_append]
  cases l.find? fun p => decide (p.1 = c) <;> simp
theorem aget_aset (l : List (α × β)) (a c : α) (b : β) : aget (aset l a b) c = if c = a then some b else aget l c := by
  unfold aset
  split
  · rename_i h
    rw [aget_map]
    split
    · rename_i hc; subst hc
      obtain ⟨v, hv⟩ := Option.isSome_iff_exists.1 h
      simp [hv]
    · rfl
  · rename_i h
    rw [aget_append]
    split
    · rename_i hc; subst hc
      have : aget l c = none := by simpa using h
      rw [this]; simp [aget]
    · rename_i hc
      have : aget [(a, b)] c = none := aget_none.2 (by rintro p hp; rw [List.mem_singleton] at hp; subst hp; exact fun e => hc e.symm)
      rw [this]; cases aget l c <;> rfl
theorem aget_adel (l : List (α × β)) (a c : α) : aget (adel l a) c = if c = a then none else aget l c := by
  unfold adel
  induction l with
  | nil => simp [aget]
  | cons p l ih =>
    rw [List.filter_cons]
    by_cases hp : p.1 = a
    · simp only [hp, decide_true, Bool.not_true, Bool.false_eq_true, if_false, ih]
      split
      · rfl
      · rename_i hc
        have : ¬ a = c := fun h => hc h.symm
        simp [aget, List.find?_cons, hp, this]
    · simp only [hp, decide_false, Bool.not_false, if_true]
      by_cases hc : p.1 = c
      · subst hc; simp [aget, List.find?_cons, hp]
      · have e1 : ∀ m : List (α × β), aget (p :: m) c = aget m c := fun m => by simp [aget, List.find?_cons, hc]
        rw [e1, e1, ih]
theorem akeys_aset (l : List (α × β)) (a : α) (b : β) : akeys (aset l a b) = if (aget l a).isSome then akeys l else akeys l ++ [a] := by
  unfold aset
  split
  · unfold akeys
    rw [List.map_map]
    refine List.map_congr_left fun p _ => ?_
    show (if p.1 = a then (a, b) else p).1 = p.1
    split
    · rename_i h; exact h.symm
    · rfl
  · simp [akeys]
theorem aset_length (l : List (α × β)) (a : α) (b : β) : (aset l a b).length = if (aget l a).isSome then l.length else l.length + 1 := by
  unfold aset; split <;> simp
theorem akeys_nodup_aset {l : List (α × β)} (hn : (akeys l).Nodup) (a : α) (b : β) : (akeys (aset l a b)).Nodup := by
  rw [akeys_aset]
  split
  · exact hn
  · rename_i h
    have : aget l a = none := by simpa using h
    refine List.nodup_append.2 ⟨hn, by simp, ?_⟩
    intro x hx y hy
    rw [List.mem_singleton] at hy
    subst hy
    obtain ⟨p, hp, rfl⟩ := List.mem_map.1 hx
    exact aget_none.1 this p hp
theorem akeys_nodup_adel {l : List (α × β)} (hn : (akeys l).Nodup) (a : α) : (akeys (adel l a)).Nodup := (List.filter_sublist.map _).nodup hn
theorem eraseIdx_adel {l : List (α × β)} (hn : (akeys l).Nodup) {j : Nat} {p : α × β} (hj : l[j]? = some p) : l.eraseIdx j = adel l p.1 := by
  induction l generalizing j with
  | nil => simp at hj
  | cons q l ih =>
    simp only [akeys, List.map_cons, List.nodup_cons] at hn
    cases j with
    | zero =>
      simp at hj; subst hj
      have : l.filter (fun p => !decide (p.1 = q.1)) = l := List.filter_eq_self.2 fun p hp => by
        simp; intro e; exact hn.1 (List.mem_map.2 ⟨p, hp, e⟩)
      simp [adel, this]
    | succ j =>
      have hj' : l[j]? = some p := by simpa using hj
      have hne : q.1 ≠ p.1 := fun e => hn.1 (by rw [e]; exact List.mem_map.2 ⟨p, List.mem_of_getElem? hj', rfl⟩)
      have := ih hn.2 hj'
      simp [adel, hne] at this ⊢
      exact this
end

theorem map_eraseIdx' {α β : Type} (f : α → β) : ∀ (l : List α) (i : Nat), (l.eraseIdx i).map f = (l.map f).eraseIdx i
  | [], _ => rfl
  | _ :: _, 0 => rfl
  | a :: l, i + 1 => by simp [map_eraseIdx' f l i]

/-! ### Keys -/
/-- What is asked of a key's type: which values are keys. -/
structure KL (P : Program) (k : TypeId) (K : Value → Prop) : Prop where
  check : ∀ (w : World) (em : Bool) {v : Value}, K v → (Instr.checkKey em 10000 k v).run P w = .ok () w
  find : ∀ (w : World) {x : Value}, K x → ∀ es : List MapEntry, (∀ e ∈ es, K e.key) →
    ((Instr.findKey k x es).run P w = .ok none w ∧ ∀ e ∈ es, e.key ≠ x) ∨ ∃ j e, (Instr.findKey k x es).run P w = .ok (some (j, e.val)) w ∧ es[j]? = some e ∧ e.key = x
  stays : ∀ (w : World) {v : Value}, K v → (Instr.keyThatStays v v).run P w = .ok v w
theorem KL.of_law {P : Program} {k : TypeId} (K : WideMaps.KeyLaw P k) : KL P k (fun v => ∃ l, keyOf P k v = some l) :=
  ⟨fun w em _ ⟨_, h⟩ => K.check w em h, fun w _ ⟨_, h⟩ es he => K.find w h es he, fun w _ ⟨_, h⟩ => K.stays w h⟩
theorem KL.of_now {P : Program} {k : TypeId} {d : TypeDesc} (hd : P.underlying k = some d) : KL P k (MapKept.IsKey d) :=
  ⟨fun w em _ h => MapKept.run_checkKey hd h em 9999, fun w x hx es he => by
    rcases MapKept.findNow_spec hx es 0 he with ⟨h1, h2⟩ | ⟨j, e, h1, h2, h3⟩
    · exact .inl ⟨MapKept.run_findKey hd h1, h2⟩
    · rw [Nat.zero_add] at h1
      exact .inr ⟨j, e, MapKept.run_findKey hd h1, h2, h3⟩, fun w _ h => MapKept.run_keyThatStays h⟩
theorem KL.mono {P : Program} {k : TypeId} {K K' : Value → Prop} (h : KL P k K) (hk : ∀ v, K' v → K v) : KL P k K' :=
  ⟨fun w em _ hv => h.check w em (hk _ hv), fun w _ hx es he => h.find w (hk _ hx) es (fun e hm => hk _ (he e hm)), fun w _ hv => h.stays w (hk _ hv)⟩

/-- How a map's keys and values are written. -/
structure MapW (P : Program) (t kt et : TypeId) {α β : Type} (ka : α → Value) (vb : β → Value) (z : Value) : Prop where
  und : P.underlying t = some (.map kt et)
  key : KL P kt fun v => ∃ a, v = ka a
  inj : ∀ a b, ka a = ka b → a = b
  zero : zeroT P et = some z

/-- A map of one's own. -/
def mapR {α β : Type} (ka : α → Value) (vb : β → Value) (r : Nat) (l : List (α × β)) : Res :=
  ⟨fun g => g = r, fun w => ∃ es clock, w.heap[r]? = some (.map es clock) ∧ Stamped es clock ∧ es.toList.map (fun e => (e.key, e.val)) = l.map fun p => (ka p.1, vb p.2),
    fun _ _ h ⟨es, clock, h1, h2, h3⟩ => ⟨es, clock, (h r rfl).trans h1, h2, h3⟩⟩

section
variable {α β : Type} {ka : α → Value} {vb : β → Value} {z : Value} {P : Program} {t kt et : TypeId} {w0 w : World} {F : Nat → Prop} {L M : List Res} {k kk : Value → World → Prop} {l : List (α × β)} {r : Nat}

theorem mapR_keys (hinj : ∀ a b, ka a = ka b → a = b) {es : Array MapEntry} {clock : Nat} (hs : Stamped es clock) (hl : es.toList.map (fun e => (e.key, e.val)) = l.map fun p => (ka p.1, vb p.2)) : (akeys l).Nodup := by
  have h := hs.2.2
  have e : es.toList.map (·.key) = l.map fun p => ka p.1 := by
    have := congrArg (List.map Prod.fst) hl
    simpa [List.map_map, Function.comp_def] using this
  rw [e] at h
  have h' : (l.map fun p => ka p.1).Nodup := h
  rw [show (l.map fun p => ka p.1) = (akeys l).map ka by simp [akeys, List.map_map, Function.comp_def]] at h'
  exact List.Pairwise.of_map ka (fun a b hne e => hne (congrArg ka e)) h'

theorem mapR_find [DecidableEq α] (W : MapW P t kt et ka vb z) {es : Array MapEntry} {clock : Nat} (hs : Stamped es clock) (hl : es.toList.map (fun e => (e.key, e.val)) = l.map fun p => (ka p.1, vb p.2)) (a : α) (w : World) :
    ((Instr.findKey kt (ka a) es.toList).run P w = .ok none w ∧ aget l a = none ∧ ∀ e ∈ es.toList, e.key ≠ ka a) ∨
      ∃ j e b, (Instr.findKey kt (ka a) es.toList).run P w = .ok (some (j, e.val)) w ∧ es[j]? = some e ∧ e.key = ka a ∧ l[j]? = some (a, b) ∧ e.val = vb b ∧ aget l a = some b := by
  have hk : ∀ e ∈ es.toList, ∃ a, e.key = ka a := by
    intro e he
    have : (e.key, e.val) ∈ es.toList.map (fun e => (e.key, e.val)) := List.mem_map.2 ⟨e, he, rfl⟩
    rw [hl] at this
    obtain ⟨p, _, hp⟩ := List.mem_map.1 this
    exact ⟨p.1, (congrArg Prod.fst hp).symm⟩
  rcases W.key.find w ⟨a, rfl⟩ es.toList hk with ⟨h1, h2⟩ | ⟨j, e, h1, h2, h3⟩
  · refine .inl ⟨h1, aget_none.2 fun p hp e => ?_, h2⟩
    have : (ka p.1, vb p.2) ∈ es.toList.map (fun e => (e.key, e.val)) := by rw [hl]; exact List.mem_map.2 ⟨p, hp, rfl⟩
    obtain ⟨x, hx, hxe⟩ := List.mem_map.1 this
    refine h2 x hx ?_
    rw [show x.key = ka p.1 from congrArg Prod.fst hxe, e]
  · have hg := congrArg (·[j]?) hl
    simp only [List.getElem?_map, h2, Option.map_some] at hg
    cases hj : l[j]? with
    | none => rw [hj] at hg; cases hg
    | some p =>
      rw [hj] at hg
      simp only [Option.map_some, Option.some.injEq, Prod.mk.injEq] at hg
      obtain rfl : p.1 = a := W.inj _ _ (by rw [← hg.1, h3])
      exact .inr ⟨j, e, p.2, h1, by simpa using h2, h3, hj, hg.2, aget_of_mem (mapR_keys W.inj hs hl) (List.mem_of_getElem? hj)⟩

/-- make. -/
theorem Hp.makeMap (H : Hp w0 F w L M) (ka : α → Value) (vb : β → Value)
    (h : ∀ r w', Hp w0 F w' (mapR ka vb r [] :: L) M → k (.map (some r)) w') : makeMapK P t none w k := by
  unfold makeMapK
  refine ⟨_, w.alloc (.map #[] 0), ?_, h w.heap.size _ (H.add (Keeps.alloc _ _) _ ⟨#[], 0, heap_alloc_new w _, MapKept.stamped_empty 0, rfl⟩ ?_)⟩
  · simp [Instr.makeMap]
  · rintro g rfl; exact ⟨Nat.le_refl _, by simp⟩

/-- v, ok := m[k]. -/
theorem Hp.lookupOk [DecidableEq α] (H : Hp w0 F w L M) (n : Nat) (hn : L[n]? = some (mapR ka vb r l)) (W : MapW P t kt et ka vb z) (a : α)
    (h1 : ∀ b, aget l a = some b → kk (.tuple #[vb b, .bool true]) w) (h2 : aget l a = none → kk (.tuple #[z, .bool false]) w) : lookupK P t (.map (some r)) (ka a) true w kk := by
  obtain ⟨es, clock, hb, hs, hl⟩ := H.get n hn
  unfold lookupK
  rcases mapR_find W hs hl a w with ⟨hf, hg, _⟩ | ⟨j, e, b, hf, he, hek, hlj, hv, hg⟩
  · exact ⟨_, w, by simp [Instr.lookup, run_underlying W.und, MapKept.run_getObj_map hb, W.key.check w _ ⟨a, rfl⟩, hf, run_zero W.zero, Result.andThen], h2 hg⟩
  · exact ⟨_, w, by simp [Instr.lookup, run_underlying W.und, MapKept.run_getObj_map hb, W.key.check w _ ⟨a, rfl⟩, hf, hv, Result.andThen], h1 b hg⟩
/-- m[k]. -/
theorem Hp.lookup [DecidableEq α] (H : Hp w0 F w L M) (n : Nat) (hn : L[n]? = some (mapR ka vb r l)) (W : MapW P t kt et ka vb z) (a : α)
    (h : kk (((aget l a).map vb).getD z) w) : lookupK P t (.map (some r)) (ka a) false w kk := by
  obtain ⟨es, clock, hb, hs, hl⟩ := H.get n hn
  unfold lookupK
  rcases mapR_find W hs hl a w with ⟨hf, hg, _⟩ | ⟨j, e, b, hf, he, hek, hlj, hv, hg⟩
  · rw [hg] at h
    exact ⟨_, w, by simp [Instr.lookup, run_underlying W.und, MapKept.run_getObj_map hb, W.key.check w _ ⟨a, rfl⟩, hf, run_zero W.zero, Result.andThen], h⟩
  · rw [hg] at h
    exact ⟨_, w, by simp [Instr.lookup, run_underlying W.und, MapKept.run_getObj_map hb, W.key.check w _ ⟨a, rfl⟩, hf, hv, Result.andThen], h⟩

theorem mapR_turn (H : Hp w0 F w L M) (n : Nat) {l' : List (α × β)} (hn : L[n]? = some (mapR ka vb r l)) {es : Array MapEntry} {clock : Nat} {es' : Array MapEntry} {clock' : Nat}
    (hb : w.heap[r]? = some (.map es clock)) (hs : Stamped es' clock') (hl : es'.toList.map (fun e => (e.key, e.val)) = l'.map fun p => (ka p.1, vb p.2)) :
    Hp w0 F { w with heap := w.heap.setIfInBounds r (.map es' clock') } (L.set n (mapR ka vb r l')) M := by
  have hset := MapKept.heap_set (o' := .map es' clock') hb
  refine H.turn n hn _ ⟨rfl, rfl, rfl, by simp, fun g hg hne => hset.2 g hne⟩ ⟨es', clock', hset.1, hs, hl⟩ ?_
  rintro g rfl
  exact ⟨by simpa using (Array.getElem?_eq_some_iff.1 hb).1, .inl rfl⟩

theorem aset_modify [DecidableEq α] {es : Array MapEntry} {j : Nat} {a : α} {b b' : β} (hn : (akeys l).Nodup) (hl : es.toList.map (fun e => (e.key, e.val)) = l.map fun p => (ka p.1, vb p.2)) (hlj : l[j]? = some (a, b)) :
    (es.modify j fun e => { e with key := ka a, val := vb b' }).toList.map (fun e => (e.key, e.val)) = (aset l a b').map fun p => (ka p.1, vb p.2) := by
  have hg : aget l a = some b := aget_of_mem hn (List.mem_of_getElem? hlj)
  unfold aset
  rw [hg]
  simp only [Option.isSome_some, if_true]
  apply List.ext_getElem?
  intro i
  have hli := congrArg (·[i]?) hl
  simp only [List.getElem?_map, Array.getElem?_toList] at hli
  simp only [List.getElem?_map, Array.getElem?_toList, Array.getElem?_modify]
  by_cases hij : j = i
  · subst hij
    simp only [if_true]
    rw [hlj] at hli ⊢
    cases he : es[j]? with
    | none => rw [he] at hli; cases hli
    | some x => simp
  · simp only [hij, if_false]
    rw [hli]
    cases hi : l[i]? with
    | none => rfl
    | some p =>
      have hne : p.1 ≠ a := by
        intro h
        have hk := hn
        have h1 : (akeys l)[i]? = some a := by simp [akeys, hi, h]
        have h2 : (akeys l)[j]? = some a := by simp [akeys, hlj]
        exact hij ((List.getElem?_inj (List.getElem?_eq_some_iff.1 h2).1 hk).1 (h2.trans h1.symm))
      simp [hne]

/-- m[k] = v. -/
theorem Hp.mapSet [DecidableEq α] (H : Hp w0 F w L M) (n : Nat) (hn : L[n]? = some (mapR ka vb r l)) (W : MapW P t kt et ka vb z) (a : α) (b : β)
    (h : ∀ w', Hp w0 F w' (L.set n (mapR ka vb r (aset l a b))) M → k undef w') : mapSetK P t (.map (some r)) (ka a) (vb b) w k := by
  obtain ⟨es, clock, hb, hs, hl⟩ := H.get n hn
  unfold mapSetK
  rcases mapR_find W hs hl a w with ⟨hf, hg, hno⟩ | ⟨j, e, b0, hf, he, hek, hlj, hv, hg⟩
  · have hs' := MapKept.stamped_push (val := vb b) hs hno
    refine ⟨_, ?_, h _ (mapR_turn H n hn hb hs' ?_)⟩
    · simp [Instr.mapUpdate, run_underlying W.und, MapKept.run_getObj_map hb, W.key.check w _ ⟨a, rfl⟩, hf, MapKept.run_setObj_map _ hb, Result.andThen]
    · simp [aset, hg, hl]
  · have hkey : ∀ e', es[j]? = some e' → ({ e' with key := ka a, val := vb b } : MapEntry).key = e'.key := fun e' he' => by rw [he] at he'; cases he'; exact hek.symm
    have hs' := MapKept.stamped_modify hs j (fun e => { e with key := ka a, val := vb b }) (fun _ _ => rfl) (fun e' _ he' => hkey e' he')
    refine ⟨_, ?_, h _ (mapR_turn H n hn hb hs' (aset_modify (mapR_keys W.inj hs hl) hl hlj))⟩
    have hst := W.key.stays w (v := ka a) ⟨a, rfl⟩
    simp [Instr.mapUpdate, run_underlying W.und, MapKept.run_getObj_map hb, W.key.check w _ ⟨a, rfl⟩, hf, he, hek, hst, MapKept.run_setObj_map _ hb, Result.andThen]

/-- delete. -/
theorem Hp.mapDel [DecidableEq α] (H : Hp w0 F w L M) (n : Nat) (hn : L[n]? = some (mapR ka vb r l)) (W : MapW P t kt et ka vb z) (a : α) {ty : TypeId} {cst : Array Bool}
    (h : ∀ w', Hp w0 F w' (L.set n (mapR ka vb r (adel l a))) M → kk (.tuple #[]) w') : builtinK P .delete #[t, kt] ty cst [.map (some r), ka a] w kk := by
  obtain ⟨es, clock, hb, hs, hl⟩ := H.get n hn
  unfold builtinK
  have hnd := mapR_keys W.inj hs hl
  rcases mapR_find W hs hl a w with ⟨hf, hg, hno⟩ | ⟨j, e, b0, hf, he, hek, hlj, hv, hg⟩
  · refine ⟨_, _, ?_, h _ (mapR_turn H n hn hb hs ?_)⟩
    · show (do pure (.value (← Builtin.delete_ #[t, kt] ty #[.map (some r), ka a])) : Sem Next).run P w = _
      simp [Builtin.delete_, run_underlying W.und, MapKept.run_getObj_map hb, W.key.check w _ ⟨a, rfl⟩, hf, MapKept.run_setObj_map _ hb, Result.andThen]
    · have : adel l a = l := List.filter_eq_self.2 fun p hp => by simpa using aget_none.1 hg p hp
      rw [this, hl]
  · refine ⟨_, _, ?_, h _ (mapR_turn H n hn hb (MapKept.stamped_erase hs j) ?_)⟩
    · show (do pure (.value (← Builtin.delete_ #[t, kt] ty #[.map (some r), ka a])) : Sem Next).run P w = _
      simp [Builtin.delete_, run_underlying W.und, MapKept.run_getObj_map hb, W.key.check w _ ⟨a, rfl⟩, hf, MapKept.run_setObj_map _ hb, Result.andThen]
    · have hj : j < es.size := (Array.getElem?_eq_some_iff.1 he).1
      rw [← eraseIdx_adel hnd hlj]
      simp only [Array.eraseIdxIfInBounds, hj, dif_pos, Array.toList_eraseIdx]
      rw [map_eraseIdx', map_eraseIdx', hl]

/-- len. -/
theorem Hp.lenMap (H : Hp w0 F w L M) (n : Nat) (hn : L[n]? = some (mapR ka vb r l)) (W : MapW P t kt et ka vb z) {ty : TypeId} {cst : Array Bool}
    (h : kk (.int .i64 (l.length : Int)) w) : builtinK P .len #[t] ty cst [.map (some r)] w kk := by
  obtain ⟨es, clock, hb, hs, hl⟩ := H.get n hn
  have hlen : es.size = l.length := by have := congrArg List.length hl; simpa using this
  unfold builtinK
  refine ⟨_, w, ?_, h⟩
  show (do pure (.value (← Builtin.len_ #[t] ty #[.map (some r)])) : Sem Next).run P w = _
  simp [Builtin.len_, run_underlying W.und, MapKept.run_getObj_map hb, goInt, hlen, Result.andThen]
end
end Go.Dk

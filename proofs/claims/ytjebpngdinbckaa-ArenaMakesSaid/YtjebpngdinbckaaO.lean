import Derived.Test.YtjebpngdinbckaaW
/- Drawn regions whose loud operations are not all ordered: every order of the loud ones is walked. -/
namespace Go.Dk
open Go

/-- A schedule that a region may draw, from what is listed on. -/
def validL (ops : Array Oper) : Array Bool → List Nat → Prop
  | listed, [] => Region.ready .any ops listed = []
  | listed, i :: r => i ∈ Region.ready .any ops listed ∧ validL ops (listed.setIfInBounds i true) r

theorem any_list {P : Program} {ops : Array Oper} {Q : Exit → Act → World → Prop} : ∀ (σ : List Nat) (fuel : Nat) (listed : Array Bool) (a : Act) (w : World), σ.length ≤ fuel → validL ops listed σ →
    wpAny P .any ops Q fuel listed a w → wpOps P ops Q σ a w := by
  intro σ
  induction σ with
  | nil =>
    intro fuel listed a w _ hv h
    cases fuel with
    | zero => simpa [wpOps] using h.2
    | succ n => simpa [wpOps] using h.1 hv
  | cons i r ih =>
    intro fuel listed a w hl hv h
    cases fuel with
    | zero => simp at hl
    | succ n =>
      rw [wpOps_cons]
      exact wpOp_mono (fun a w hh => ih n _ a w (by simpa using hl) hv.2 hh) (h.2 i hv.1)

/-- How many are not yet listed. -/
def unl (n : Nat) (listed : Array Bool) : Nat := ((List.range n).filter fun i => !listed.getD i true).length
theorem unl_set {n : Nat} {listed : Array Bool} {i : Nat} (hi : i < n) (hu : listed.getD i true = false) : unl n (listed.setIfInBounds i true) + 1 = unl n listed := by
  unfold unl
  have his : i < listed.size := by
    rcases Nat.lt_or_ge i listed.size with h | h
    · exact h
    · simp [Array.getElem?_eq_none h] at hu
  have hp : ((List.range n).filter fun j => !listed.getD j true).Perm (i :: (List.range n).filter fun j => !(listed.setIfInBounds i true).getD j true) := by
    refine (List.perm_ext_iff_of_nodup (List.nodup_range.filter _) (List.nodup_cons.2 ⟨?_, List.nodup_range.filter _⟩)).2 fun j => ?_
    · rw [List.mem_filter]; simp [his]
    · rw [List.mem_filter, List.mem_cons, List.mem_filter]
      by_cases hj : i = j
      · subst hj; simp [hi, hu]
      · rw [getD_set_ne true hj]; simp [Ne.symm hj]
  have := hp.length_eq
  simpa using this.symm

theorem go_valid {ops : Array Oper} : ∀ (fuel t : Nat) (listed : Array Bool), unl ops.size listed ≤ fuel → validL ops listed (Region.linearise.go .any ops fuel t listed []) := by
  intro fuel
  induction fuel with
  | zero =>
    intro t listed h
    simp only [Region.linearise.go, List.reverse_nil, validL]
    rw [List.eq_nil_iff_forall_not_mem]
    intro i hi
    obtain ⟨hun, oi, hoi, _⟩ := mem_ready.1 hi
    have hlt : i < ops.size := (Array.getElem?_eq_some_iff.1 hoi).1
    have : i ∈ (List.range ops.size).filter fun i => !listed.getD i true := List.mem_filter.2 ⟨List.mem_range.2 hlt, by simp [hun]⟩
    have h0 : unl ops.size listed = 0 := by omega
    rw [List.length_eq_zero_iff.1 h0] at this
    cases this
  | succ fuel ih =>
    intro t listed h
    simp only [Region.linearise.go]
    change validL ops listed (match (Region.ready .any ops listed)[t % (Region.ready .any ops listed).length]? with
      | some i => Region.linearise.go .any ops fuel (t / (Region.ready .any ops listed).length) (listed.setIfInBounds i true) [i]
      | none => [].reverse)
    cases hi : (Region.ready .any ops listed)[t % (Region.ready .any ops listed).length]? with
    | none =>
      cases hr : Region.ready .any ops listed with
      | nil => simp [validL, hr]
      | cons x xs =>
        rw [hr] at hi
        have hlt : t % (x :: xs).length < (x :: xs).length := Nat.mod_lt _ (by simp)
        simp at hi
        simp at hlt
        omega
    | some i =>
      simp only []
      rw [linearise_go_acc, List.reverse_singleton, List.singleton_append]
      have hin := List.mem_of_getElem? hi
      obtain ⟨hun, oi, hoi, _⟩ := mem_ready.1 hin
      have hlt : i < ops.size := (Array.getElem?_eq_some_iff.1 hoi).1
      have := unl_set hlt hun
      exact ⟨hin, ih _ _ (by omega)⟩

def loudAt (ops : Array Oper) (i : Nat) : Bool := match ops[i]? with | some o => loud o.op | none => false
/-- An operation, its numbers turned. -/
def renum (pos : Nat → Nat) (extra : List Edge) (o : Oper) : Oper :=
  { o with after := ((o.after.toList.map fun e => (⟨pos e.on, e.ground⟩ : Edge)) ++ extra).toArray, guard := o.guard.map fun gb => (pos gb.1, gb.2) }
def extraL (ops : Array Oper) (lam ord : List Nat) (i : Nat) : List Edge :=
  bif loudAt ops i then (lam.takeWhile fun k => k != i).map fun k => ⟨ord.idxOf k, .data⟩ else []
/-- The region's operations in the order 'ord', the loud ones chained in the order 'lam'. -/
def reg (ops : Array Oper) (lam ord : List Nat) : Array Oper := (ord.map fun i => renum (fun j => ord.idxOf j) (extraL ops lam ord i) ((ops[i]?).getD default)).toArray
def permB (n : Nat) (ord : List Nat) : Bool := decide ord.Nodup && (ord.length == n) && (List.range n).all (fun i => ord.contains i) && ord.all (fun i => decide (i < n))

section
variable {ops : Array Oper} {lam ord : List Nat}
theorem perm_pos (h : permB ops.size ord = true) {i : Nat} (hi : i < ops.size) : ord.idxOf i < ops.size ∧ ord[ord.idxOf i]? = some i := by
  unfold permB at h
  simp only [Bool.and_eq_true, decide_eq_true_eq, beq_iff_eq, List.all_eq_true, List.mem_range, List.contains_iff_mem] at h
  have hm := h.1.2 i hi
  have hl := List.idxOf_lt_length_of_mem hm
  exact ⟨by have := h.1.1.2; omega, by rw [List.getElem?_eq_getElem hl, List.getElem_idxOf]⟩
theorem perm_inj (h : permB ops.size ord = true) {i j : Nat} (hi : i < ops.size) (hj : j < ops.size) (e : ord.idxOf i = ord.idxOf j) : i = j := by
  have h1 := (perm_pos h hi).2
  have h2 := (perm_pos h hj).2
  rw [e, h2] at h1
  injection h1 with h1
  exact h1.symm
theorem perm_back (h : permB ops.size ord = true) {p : Nat} (hp : p < ops.size) : ∃ i, i < ops.size ∧ ord.idxOf i = p := by
  have h' := h
  unfold permB at h'
  simp only [Bool.and_eq_true, decide_eq_true_eq, beq_iff_eq, List.all_eq_true, List.mem_range, List.contains_iff_mem] at h'
  obtain ⟨⟨⟨hn, hl⟩, _⟩, hlt⟩ := h'
  have hp' : p < ord.length := by omega
  refine ⟨ord[p], hlt _ (List.getElem_mem hp'), ?_⟩
  exact List.Nodup.idxOf_getElem hn p hp'
theorem reg_size (h : permB ops.size ord = true) : (reg ops lam ord).size = ops.size := by
  unfold permB at h
  simp only [Bool.and_eq_true, beq_iff_eq] at h
  simp [reg, h.1.1.2]
theorem reg_at (h : permB ops.size ord = true) {i : Nat} {o : Oper} (ho : ops[i]? = some o) : (reg ops lam ord)[ord.idxOf i]? = some (renum (fun j => ord.idxOf j) (extraL ops lam ord i) o) := by
  have hlt : i < ops.size := (Array.getElem?_eq_some_iff.1 ho).1
  unfold reg
  rw [List.getElem?_toArray, List.getElem?_map, (perm_pos h hlt).2]
  simp [ho]
theorem reg_dst (h : permB ops.size ord = true) (g : Nat) : ((reg ops lam ord)[ord.idxOf g]?).bind (·.dst) = (ops[g]?).bind (·.dst) := by
  cases hg : ops[g]? with
  | some o => rw [reg_at h hg]; rfl
  | none =>
    have hge : ops.size ≤ g := Array.getElem?_eq_none_iff.1 hg
    have hnot : ¬ g ∈ ord := by
      intro hm
      have hp : ord.idxOf g < ops.size := by
        have := List.idxOf_lt_length_of_mem hm
        unfold permB at h
        simp only [Bool.and_eq_true, beq_iff_eq] at h
        omega
      obtain ⟨i, hi, e⟩ := perm_back h hp
      have h1 := (perm_pos h hi).2
      rw [e, List.getElem?_eq_getElem (List.idxOf_lt_length_of_mem hm), List.getElem_idxOf] at h1
      injection h1 with h1
      omega
    have : (reg ops lam ord)[ord.idxOf g]? = none := by
      rw [Array.getElem?_eq_none_iff, reg_size h]
      rw [List.idxOf_eq_length hnot]
      unfold permB at h
      simp only [Bool.and_eq_true, beq_iff_eq] at h
      omega
    rw [this]
theorem renum_wanted (h : permB ops.size ord = true) (ex : List Edge) (o : Oper) (tmps : Array Value) : Region.wanted (renum (fun j => ord.idxOf j) ex o) (yielded (reg ops lam ord) tmps) = Region.wanted o (yielded ops tmps) := by
  unfold Region.wanted renum
  cases hg : o.guard with
  | none => simp
  | some gb =>
    obtain ⟨g, b⟩ := gb
    simp only [Option.map_some]
    have : yielded (reg ops lam ord) tmps (ord.idxOf g) = yielded ops tmps g := by
      unfold yielded
      rw [reg_dst h]
    rw [this]
theorem wp_reg {P : Program} {Q : Exit → Act → World → Prop} (h : permB ops.size ord = true) : ∀ (σ : List Nat), (∀ i ∈ σ, i < ops.size) → ∀ a w, wpOps P (reg ops lam ord) Q (σ.map fun i => ord.idxOf i) a w → wpOps P ops Q σ a w := by
  intro σ
  induction σ with
  | nil => intro _ a w hh; exact hh
  | cons i r ih =>
    intro hr a w hh
    rw [List.map_cons, wpOps_cons] at hh
    rw [wpOps_cons]
    have hh := wpOp_mono (fun a w hx => ih (fun j hj => hr j (.tail _ hj)) a w hx) hh
    have hi := hr i (.head _)
    have ho : ops[i]? = some ops[i] := Array.getElem?_eq_getElem hi
    unfold wpOp at hh ⊢
    rw [reg_at h ho] at hh
    rw [ho]
    simp only [renum_wanted h] at hh ⊢
    exact hh

theorem binds_on (m : Region.Mode) (a b : Nat) (g : Ground) : Region.binds m ⟨a, g⟩ = Region.binds m ⟨b, g⟩ := rfl
theorem getD_lt {l : Array Bool} {i : Nat} (h : l.getD i false = true) : i < l.size := by
  rcases Nat.lt_or_ge i l.size with h' | h'
  · exact h'
  · simp [Array.getElem?_eq_none h'] at h
theorem getD_any {l : Array Bool} {i : Nat} (h : i < l.size) (d d' : Bool) : l.getD i d = l.getD i d' := by simp [Array.getD, h]
theorem idxOf_out (h : permB ops.size ord = true) {g : Nat} (hg : ops.size ≤ g) : ord.idxOf g = ops.size := by
  unfold permB at h
  simp only [Bool.and_eq_true, decide_eq_true_eq, beq_iff_eq, List.all_eq_true] at h
  rw [List.idxOf_eq_length fun hm => by have := h.2 g hm; omega]
  exact h.1.1.2

theorem takeWhile_before {i : Nat} : ∀ (done rest : List Nat), ¬ i ∈ done → (done ++ i :: rest).takeWhile (fun k => k != i) = done := by
  intro done
  induction done with
  | nil => intro rest _; simp
  | cons a l ih =>
    intro rest h
    simp only [List.mem_cons, not_or] at h
    rw [List.cons_append, List.takeWhile_cons_of_pos (by simpa using Ne.symm h.1), ih rest h.2]

theorem valid_reg (h : permB ops.size ord = true) (hn : lam.Nodup) : ∀ (σ : List Nat) (listed listed' : Array Bool) (done : List Nat), listed.size = ops.size → listed'.size = ops.size →
    (∀ i, i < ops.size → ∀ d, listed'.getD (ord.idxOf i) d = listed.getD i d) → lam = done ++ σ.filter (loudAt ops) → (∀ k ∈ done, listed.getD k false = true) →
    validL ops listed σ → validL (reg ops lam ord) listed' (σ.map fun i => ord.idxOf i) := by
  intro σ
  induction σ with
  | nil =>
    intro listed listed' done hs hs' hl _ _ hv
    show Region.ready .any (reg ops lam ord) listed' = []
    have hv : Region.ready .any ops listed = [] := hv
    rw [List.eq_nil_iff_forall_not_mem]
    intro p hp
    obtain ⟨hun, o', ho', hpre⟩ := mem_ready.1 hp
    have hlt : p < ops.size := by have := (Array.getElem?_eq_some_iff.1 ho').1; rwa [reg_size h] at this
    obtain ⟨i, hi, rfl⟩ := perm_back h hlt
    have ho : ops[i]? = some ops[i] := Array.getElem?_eq_getElem hi
    rw [reg_at h ho] at ho'
    injection ho' with ho'
    subst ho'
    have : i ∈ Region.ready .any ops listed := mem_ready.2 ⟨by rw [← hl i hi]; exact hun, _, ho, fun e he hb => by
      have h1 := hpre ⟨ord.idxOf e.on, e.ground⟩ (by simp only [renum, List.mem_toArray, List.mem_append, List.mem_map]; exact .inl ⟨e, by simpa using he, rfl⟩) hb
      have h1 : listed'.getD (ord.idxOf e.on) false = true := h1
      rcases Nat.lt_or_ge e.on ops.size with h2 | h2
      · rw [← hl _ h2]; exact h1
      · rw [idxOf_out h h2] at h1
        have := getD_lt h1
        omega⟩
    rw [hv] at this
    cases this
  | cons i r ih =>
    intro listed listed' done hs hs' hl hlam hdone hv
    obtain ⟨hin, hv⟩ := hv
    obtain ⟨hun, o, ho, hpre⟩ := mem_ready.1 hin
    have hi : i < ops.size := (Array.getElem?_eq_some_iff.1 ho).1
    have hpi := (perm_pos h hi).1
    refine ⟨mem_ready.2 ⟨by rw [hl i hi]; exact hun, _, reg_at h ho, ?_⟩, ?_⟩
    · intro e' he' hb
      simp only [renum, List.mem_toArray, List.mem_append, List.mem_map] at he'
      rcases he' with ⟨e, he, rfl⟩ | he'
      · have h1 := hpre e (by simpa using he) hb
        have h2 := getD_lt h1
        show listed'.getD (ord.idxOf e.on) false = true
        rw [hl _ (by omega)]; exact h1
      · unfold extraL at he'
        cases hlo : loudAt ops i with
        | false => rw [hlo] at he'; cases he'
        | true =>
          rw [hlo] at he'
          have hlam2 := hlam
          rw [List.filter_cons_of_pos hlo] at hlam2
          have hid : ¬ i ∈ done := by
            rw [hlam2] at hn
            intro hm
            exact (List.nodup_append.1 hn).2.2 i hm i (.head _) rfl
          rw [cond_true, hlam2, takeWhile_before _ _ hid, List.mem_map] at he'
          obtain ⟨k, hk, rfl⟩ := he'
          have h1 := hdone k hk
          have h2 := getD_lt h1
          show listed'.getD (ord.idxOf k) false = true
          rw [hl _ (by omega)]; exact h1
    · have hset : ∀ j, j < ops.size → ∀ d, (listed'.setIfInBounds (ord.idxOf i) true).getD (ord.idxOf j) d = (listed.setIfInBounds i true).getD j d := by
        intro j hj d
        by_cases hji : i = j
        · subst hji
          have h1 : ord.idxOf i < listed'.size := by omega
          have h2 : i < listed.size := by omega
          simp [Array.getD, h1, h2]
        · rw [getD_set_ne d hji, getD_set_ne d (fun e => hji (perm_inj h hi hj e))]
          exact hl j hj d
      cases hlo : loudAt ops i with
      | false =>
        rw [List.filter_cons_of_neg (by simp [hlo])] at hlam
        exact ih _ _ done (by simpa using hs) (by simpa using hs') hset hlam (fun k hk => getD_set_true (hdone k hk)) hv
      | true =>
        rw [List.filter_cons_of_pos hlo] at hlam
        refine ih _ _ (done ++ [i]) (by simpa using hs) (by simpa using hs') hset (by rw [List.append_assoc]; exact hlam) ?_ hv
        intro k hk
        rcases List.mem_append.1 hk with hk | hk
        · exact getD_set_true (hdone k hk)
        · have : k = i := by simpa using hk
          subst this
          have h2 : k < listed.size := by omega
          simp [Array.getD, h2]

/-- All orders of the loud ones that the waits let by. -/
def exts (c : Array Nat) : Nat → List Nat → List (List Nat)
  | 0, _ => [[]]
  | n + 1, R => R.flatMap fun i => bif R.all (fun k => k == i || !waitsC c i k) then (exts c n (R.erase i)).map (i :: ·) else []
theorem exts_spec (c : Array Nat) : ∀ (τ R : List Nat), τ.Perm R → τ.Nodup → τ.Pairwise (fun i k => waitsC c i k = false) → τ ∈ exts c τ.length R := by
  intro τ
  induction τ with
  | nil => intro R _ _ _; simp [exts]
  | cons i r ih =>
    intro R hp hn hw
    have hw := List.pairwise_cons.1 hw
    have hn := List.nodup_cons.1 hn
    have hi : i ∈ R := hp.mem_iff.1 (.head _)
    rw [List.length_cons, exts, List.mem_flatMap]
    refine ⟨i, hi, ?_⟩
    have hall : R.all (fun k => k == i || !waitsC c i k) = true := by
      rw [List.all_eq_true]
      intro k hk
      rcases List.mem_cons.1 (hp.mem_iff.2 hk) with h | h
      · simp [h]
      · simp [hw.1 k h]
    rw [hall, cond_true, List.mem_map]
    exact ⟨r, ih _ (List.cons_perm_iff_perm_erase.1 hp).2 hn.2 hw.2, rfl⟩

section
variable {ops : Array Oper} {lam ord : List Nat}
theorem valid_mem : ∀ (σ : List Nat) (listed : Array Bool), validL ops listed σ → (∀ i ∈ σ, i < ops.size ∧ listed.getD i true = false) ∧ σ.Nodup := by
  intro σ
  induction σ with
  | nil => intro _ _; simp
  | cons i r ih =>
    intro listed ⟨hin, hv⟩
    obtain ⟨hun, o, ho, _⟩ := mem_ready.1 hin
    have hi : i < ops.size := (Array.getElem?_eq_some_iff.1 ho).1
    have his : i < listed.size := by
      rcases Nat.lt_or_ge i listed.size with h | h
      · exact h
      · simp [Array.getElem?_eq_none h] at hun
    obtain ⟨h1, h2⟩ := ih _ hv
    have hne : ∀ j ∈ r, i ≠ j := by
      intro j hj e
      have := (h1 j hj).2
      subst e
      simp [Array.getD, his] at this
    refine ⟨?_, List.nodup_cons.2 ⟨fun h => hne i h rfl, h2⟩⟩
    intro j hj
    rcases List.mem_cons.1 hj with rfl | hj
    · exact ⟨hi, hun⟩
    · have := h1 j hj
      rw [getD_set_ne true (hne j hj)] at this
      exact this
theorem valid_pair : ∀ (σ : List Nat) (listed : Array Bool), (Closed ops fun j => listed.getD j false = true) → validL ops listed σ → σ.Pairwise (fun i k => waitsC (closL ops.toList #[]) i k = false) := by
  intro σ
  induction σ with
  | nil => intro _ _ _; exact .nil
  | cons i r ih =>
    intro listed hc hv
    have hm := valid_mem _ _ hv
    obtain ⟨hin, hv⟩ := hv
    obtain ⟨hun, o, ho, hpre⟩ := mem_ready.1 hin
    have his : i < listed.size := by
      rcases Nat.lt_or_ge i listed.size with h | h
      · exact h
      · simp [Array.getElem?_eq_none h] at hun
    have hD : Closed ops fun j => j = i ∨ listed.getD j false = true := fun j hj o' ho' e he hb => by
      rcases hj with rfl | hj
      · rw [ho] at ho'; injection ho' with ho'; subst ho'
        exact .inr (hpre e he hb)
      · exact .inr (hc j hj o' ho' e he hb)
    refine List.pairwise_cons.2 ⟨fun k hk => ?_, ih _ ?_ hv⟩
    · rw [Bool.eq_false_iff]
      intro hw
      rcases waitsC_step hD i k (.inl rfl) hw with h | h
      · subst h; exact (List.nodup_cons.1 hm.2).1 hk
      · have h1 := (hm.1 k (.tail _ hk)).2
        rw [getD_any (getD_lt h) true false] at h1
        rw [h] at h1; cases h1
    · have gset : ∀ k, (listed.setIfInBounds i true).getD k false = true ↔ k = i ∨ listed.getD k false = true := by
        intro k
        by_cases hki : k = i
        · subst hki; simp [Array.getD, his]
        · rw [getD_set_ne false (Ne.symm hki)]; simp [hki]
      intro j hj o' ho' e he hb
      rw [gset] at hj ⊢
      exact hD j hj o' ho' e he hb
theorem valid_all (h : permB ops.size ord = true) (hd : directB (reg ops lam ord) = true) : ∀ (σ : List Nat) (listed : Array Bool), listed.size = ops.size → validL ops listed σ → ∀ i, i < ops.size → listed.getD i true = true ∨ i ∈ σ := by
  intro σ
  induction σ with
  | nil =>
    intro listed hs hv
    have hv : Region.ready .any ops listed = [] := hv
    have key : ∀ n i, i < ops.size → ord.idxOf i = n → listed.getD i true = true := by
      intro n
      induction n using Nat.strongRecOn with
      | _ n ih =>
        intro i hi hn
        cases hun : listed.getD i true with
        | true => rfl
        | false =>
          have ho : ops[i]? = some ops[i] := Array.getElem?_eq_getElem hi
          have : i ∈ Region.ready .any ops listed := mem_ready.2 ⟨hun, _, ho, fun e he hb => by
            have h1 := directB_spec hd (reg_at h ho) (e := ⟨ord.idxOf e.on, e.ground⟩) (by simp only [renum, List.mem_toArray, List.mem_append, List.mem_map]; exact .inl ⟨e, by simpa using he, rfl⟩) hb
            have h1 : ord.idxOf e.on < ord.idxOf i := h1
            have h2 : e.on < ops.size := by
              rcases Nat.lt_or_ge e.on ops.size with h2 | h2
              · exact h2
              · rw [idxOf_out h h2] at h1
                have := (perm_pos h hi).1
                omega
            rw [getD_any (by omega) false true]
            exact ih _ (by omega) e.on h2 rfl⟩
          rw [hv] at this
          cases this
    intro i hi
    exact .inl (key _ i hi rfl)
  | cons i r ih =>
    intro listed hs ⟨hin, hv⟩ j hj
    rcases ih _ (by simpa using hs) hv j hj with h1 | h1
    · by_cases hji : i = j
      · exact .inr (hji ▸ .head _)
      · rw [getD_set_ne true hji] at h1
        exact .inl h1
    · exact .inr (.tail _ h1)

theorem reg_dsts (h : permB ops.size ord = true) : ∀ x ∈ dsts (reg ops lam ord).toList, x ∈ dsts ops.toList := by
  intro x hx
  unfold dsts at hx ⊢
  rw [List.mem_filterMap] at hx ⊢
  obtain ⟨o', ho', hd⟩ := hx
  obtain ⟨p, hp⟩ := List.getElem?_of_mem ho'
  have hp' : (reg ops lam ord)[p]? = some o' := by simpa using hp
  have hlt : p < ops.size := by have := (Array.getElem?_eq_some_iff.1 hp').1; rwa [reg_size h] at this
  obtain ⟨i, hi, rfl⟩ := perm_back h hlt
  have ho : ops[i]? = some ops[i] := Array.getElem?_eq_getElem hi
  rw [reg_at h ho] at hp'
  injection hp' with hp'
  exact ⟨ops[i], by simp, by rw [← hd, ← hp']; rfl⟩

/-- The orders given are all that there are, and each is one that the mixed walk takes. -/
def ordersB (ops : Array Oper) (Λ : List (List Nat × List Nat)) : Bool :=
  !Λ.isEmpty && (exts (closL ops.toList #[]) ((List.range ops.size).filter (loudAt ops)).length ((List.range ops.size).filter (loudAt ops))).all (fun τ => Λ.any fun x => x.1 == τ) &&
    Λ.all fun x => permB ops.size x.2 && (Region.noSelect (reg ops x.1 x.2) && mixB (reg ops x.1 x.2))

theorem draw_orders {P : Program} {N : Nat} {k : Fr → World → Prop} {f : Fr} {w : World} (C : World → Prop) (Λ : List (List Nat × List Nat)) (hf : P.follows .mixedOrders = true)
    (hB : ordersB ops Λ = true) (hC : C w.drew) (h : ∀ x ∈ Λ, mixK P N C (reg ops x.1 x.2) k 0 (reg ops x.1 x.2).toList f w.drew) : drawK P N ops k f w := by
  unfold drawK
  intro a hR id Q hQ
  refine wp_region_draw fun t => ?_
  simp only [Region.schedule, hf, Bool.true_or, if_true]
  unfold ordersB at hB
  simp only [Bool.and_eq_true] at hB
  obtain ⟨⟨hne, hcov⟩, hall⟩ := hB
  rw [List.all_eq_true] at hcov hall
  have hv : validL ops (Array.replicate ops.size false) (Region.linearise .any ops t) := go_valid _ _ _ (by unfold unl; exact Nat.le_trans (List.length_filter_le _ _) (by simp))
  generalize hσ : Region.linearise .any ops t = σ at hv ⊢
  have hcl : Closed ops fun j => (Array.replicate ops.size false).getD j false = true := fun j hj => by
    have := getD_lt hj
    simp [Array.getD] at hj
  have hm := valid_mem _ _ hv
  have hpw := valid_pair _ _ hcl hv
  obtain ⟨x0, hx0⟩ : ∃ x, x ∈ Λ := by
    cases Λ with
    | nil => simp at hne
    | cons x l => exact ⟨x, .head _⟩
  have h0 := hall x0 hx0
  simp only [Bool.and_eq_true] at h0
  have hdir0 : directB (reg ops x0.1 x0.2) = true := by have := h0.2.2; unfold mixB at this; simp only [Bool.and_eq_true] at this; exact this.1
  have hfull := valid_all h0.1 hdir0 _ _ (by simp) hv
  have hperm : (σ.filter (loudAt ops)).Perm ((List.range ops.size).filter (loudAt ops)) := by
    refine (List.perm_ext_iff_of_nodup (hm.2.filter _) (List.nodup_range.filter _)).2 fun i => ?_
    rw [List.mem_filter, List.mem_filter, List.mem_range]
    constructor
    · rintro ⟨h1, h2⟩; exact ⟨(hm.1 i h1).1, h2⟩
    · rintro ⟨h1, h2⟩
      refine ⟨(hfull i h1).resolve_left ?_, h2⟩
      simp [Array.getD, h1]
  have hex := exts_spec (closL ops.toList #[]) _ _ hperm (hm.2.filter _) (hpw.filter _)
  rw [hperm.length_eq] at hex
  have hany := hcov _ hex
  rw [List.any_eq_true] at hany
  obtain ⟨x, hx, hxe⟩ := hany
  have hxe := eq_of_beq hxe
  have hxx := hall x hx
  simp only [Bool.and_eq_true] at hxx
  obtain ⟨hp, hns, hmix⟩ := hxx
  refine wp_reg (lam := x.1) (ord := x.2) hp σ (fun i hi => (hm.1 i hi).1) _ _ ?_
  have hval := valid_reg (lam := x.1) (ord := x.2) hp (by rw [hxe]; exact hm.2.filter _) σ (Array.replicate ops.size false) (Array.replicate ops.size false) [] (by simp) (by simp)
    (fun i hi d => by simp [Array.getD, hi, (perm_pos hp hi).1]) (by rw [hxe]; rfl) (fun k hk => by cases hk) hv
  have hsz := reg_size (lam := x.1) hp
  have hk := h x hx
  have hw : wpMix P (reg ops x.1 x.2) C (fun a w => ∃ f', R N a f' ∧ (Agree (dsts ops.toList) f' f ∧ k f' w)) (List.range (reg ops x.1 x.2).size) a w.drew := by
    have := mixK_sound (reg ops x.1 x.2).toList 0 f w.drew a (fun j _ => by simp) hR (mixK_agree (dsts ops.toList) 0 (reg ops x.1 x.2).toList f w.drew (reg_dsts hp) hk)
    simpa [List.range_eq_range'] using this
  have hA := any_of_mix (P := P) (C := C) (Q' := Q) (fun a w ⟨f, hR, hk⟩ => hQ _ _ _ hR hk.1 hk.2) hns hmix (List.range (reg ops x.1 x.2).size) (Array.replicate (reg ops x.1 x.2).size false) a _ List.pairwise_lt_range (fun j => by
    simp only [List.mem_range]
    constructor
    · intro hj; exact ⟨hj, by simp [Array.getD, hj]⟩
    · intro hj; exact hj.1) (by simp) (fun j o ho hj => by
      have hjs : j < (reg ops x.1 x.2).size := (Array.getElem?_eq_some_iff.1 ho).1
      simp [Array.getD, hjs] at hj) (.inl hC) hw
  rw [hsz] at hA
  have hlen : (σ.map fun i => x.2.idxOf i).length ≤ (List.range ops.size).length := by
    rw [List.length_map, List.length_range]
    have : σ.Subset (List.range ops.size) := fun i hi => List.mem_range.2 (hm.1 i hi).1
    have := (List.perm_ext_iff_of_nodup hm.2 List.nodup_range).2 fun i => ⟨fun hi => List.mem_range.2 (hm.1 i hi).1, fun hi => (hfull i (List.mem_range.1 hi)).resolve_left (by simp [Array.getD, List.mem_range.1 hi])⟩
    rw [this.length_eq]; simp
  exact any_list _ _ _ _ _ hlen hval hA
end
end
end Go.Dk

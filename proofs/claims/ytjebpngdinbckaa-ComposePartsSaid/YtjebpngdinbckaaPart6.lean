import Derived.Test.YtjebpngdinbckaaPart5
/- Lemmas, part 6: what the proof of the row uses. -/
section
/- Decision diagrams in an arena: what an id says; one id for one thing. Plain Lean. -/
namespace Go.Dk

/-- What levels are turned. -/
abbrev Asg := Nat → Bool
def upA (a : Asg) (k : Nat) (b : Bool) : Asg := fun j => if j = k then b else a j
def mixA (k : Nat) (a b : Asg) : Asg := fun j => if j < k then a j else b j
def ndA (A : Ar) (id : Int) : Option Nd := if 2 ≤ id then slot A (id - 2).toNat else none
def semF (A : Ar) : Nat → Int → Asg → Bool
  | 0, id, _ => decide (id = 1)
  | f + 1, id, a =>
    match ndA A id with
    | none => decide (id = 1)
    | some d => semF A f (if a d.l then (d.hi : Int) else (d.lo : Int)) a
/-- What an id says. -/
def sem (A : Ar) (id : Int) (a : Asg) : Bool := semF A 25 id a

theorem upA_same (a : Asg) (k : Nat) (b : Bool) : upA a k b k = b := by unfold upA; rw [if_pos rfl]
theorem upA_ne (a : Asg) {k j : Nat} (b : Bool) (h : j ≠ k) : upA a k b j = a j := by unfold upA; rw [if_neg h]
theorem upA_self (a : Asg) (k : Nat) : upA a k (a k) = a := by funext j; unfold upA; split <;> simp_all
theorem upA_up (a : Asg) (k : Nat) (b c : Bool) : upA (upA a k b) k c = upA a k c := by funext j; unfold upA; split <;> rfl
theorem upA_comm (a : Asg) {k j : Nat} (h : k ≠ j) (b c : Bool) : upA (upA a k b) j c = upA (upA a j c) k b := by
  funext i
  unfold upA
  by_cases h1 : i = j
  · rw [if_pos h1, if_neg (by omega), if_pos h1]
  · by_cases h2 : i = k
    · rw [if_neg h1, if_pos h2, if_pos h2]
    · rw [if_neg h1, if_neg h2, if_neg h2, if_neg h1]

theorem nd_lvl {A : Ar} {id : Int} {d : Nd} (h : ndA A id = some d) : lvlA A id = d.l := by
  unfold ndA at h
  split at h
  · rename_i h2
    have := lvlA_slot h
    rwa [show (((id - 2).toNat : Nat) : Int) + 2 = id by omega] at this
  · cases h
theorem nd_slot {A : Ar} {i : Nat} : ndA A ((i : Int) + 2) = slot A i := by
  unfold ndA
  rw [if_pos (by omega), show ((i : Int) + 2 - 2).toNat = i by omega]
theorem nd_place {A : Ar} {id : Int} {d : Nd} (h : ndA A id = some d) : ∃ i : Nat, id = (i : Int) + 2 ∧ slot A i = some d := by
  unfold ndA at h
  split at h
  · exact ⟨(id - 2).toNat, by omega, h⟩
  · cases h
theorem nd_none {A : Ar} {id : Int} (h : ndA A id = none) (h0 : 0 ≤ lvlA A id) : id = 0 ∨ id = 1 := by
  rcases lvlA_node h0 with h1 | h1 | ⟨i, n, rfl, hs, _⟩
  · exact .inl h1
  · exact .inr h1
  · rw [nd_slot, hs] at h; cases h
theorem lvl_end {A : Ar} {id : Int} (h : id = 0 ∨ id = 1) : lvlA A id = 24 := by unfold lvlA; rw [if_pos h]
theorem nd_end {A : Ar} {id : Int} (h : id = 0 ∨ id = 1) : ndA A id = none := by unfold ndA; rw [if_neg (by omega)]
theorem lev_of {A : Ar} (h : ArInv A) {id : Int} {d : Nd} (hd : ndA A id = some d) : (d.l : Int) < lvlA A d.lo ∧ (d.l : Int) < lvlA A d.hi := by
  obtain ⟨i, rfl, hs⟩ := nd_place hd
  exact h.lev i d hs

theorem semF_stable {A : Ar} (h : ArInv A) (a : Asg) : ∀ (f f' : Nat) (id : Int), 24 - lvlA A id < f → 24 - lvlA A id < f' → semF A f id a = semF A f' id a
  | 0, _, id, h1, _ => by have := lvlA_le h id; omega
  | _ + 1, 0, id, _, h2 => by have := lvlA_le h id; omega
  | f + 1, f' + 1, id, h1, h2 => by
    unfold semF
    cases hd : ndA A id with
    | none => rfl
    | some d =>
      have hl := nd_lvl hd
      have hlev := lev_of h hd
      refine semF_stable h a f f' _ ?_ ?_
      · split <;> omega
      · split <;> omega
theorem sem_none {A : Ar} {id : Int} (h : ndA A id = none) (a : Asg) : sem A id a = decide (id = 1) := by
  unfold sem semF
  rw [h]
theorem sem_node {A : Ar} (h : ArInv A) {id : Int} {d : Nd} (hd : ndA A id = some d) (a : Asg) : sem A id a = sem A (if a d.l then (d.hi : Int) else (d.lo : Int)) a := by
  have hl := nd_lvl hd
  have hlev := lev_of h hd
  have e : sem A id a = semF A 24 (if a d.l then (d.hi : Int) else (d.lo : Int)) a := by
    unfold sem
    rw [semF, hd]
  rw [e]
  refine semF_stable h a _ _ _ ?_ ?_ <;> split <;> omega
theorem lvl_induct {A : Ar} (h : ArInv A) {P : Int → Prop} (h0 : ∀ id, ndA A id = none → P id) (h1 : ∀ id d, ndA A id = some d → P d.lo → P d.hi → P id) : ∀ id, P id := by
  have key : ∀ (f : Nat) (id : Int), 24 - lvlA A id < f → P id := by
    intro f
    induction f with
    | zero => intro id hf; have := lvlA_le h id; omega
    | succ f ih =>
      intro id hf
      cases hd : ndA A id with
      | none => exact h0 id hd
      | some d =>
        have hl := nd_lvl hd
        have hlev := lev_of h hd
        exact h1 id d hd (ih _ (by omega)) (ih _ (by omega))
  intro id
  have : -1 ≤ lvlA A id := by
    unfold lvlA
    split
    · omega
    · split
      · split <;> omega
      · omega
  exact key 26 id (by omega)
theorem sem_agree {A : Ar} (h : ArInv A) {a b : Asg} : ∀ id : Int, (∀ j : Nat, lvlA A id ≤ j → a j = b j) → sem A id a = sem A id b := by
  refine lvl_induct h (fun id hd _ => ?_) (fun id d hd ih1 ih2 hab => ?_)
  · rw [sem_none hd, sem_none hd]
  · have hl := nd_lvl hd
    have hlev := lev_of h hd
    rw [sem_node h hd, sem_node h hd, hab d.l (by omega)]
    split
    · exact ih2 fun j hj => hab j (by omega)
    · exact ih1 fun j hj => hab j (by omega)
theorem sem_up {A : Ar} (h : ArInv A) {id : Int} {k : Nat} (hk : (k : Int) < lvlA A id) (a : Asg) (b : Bool) : sem A id (upA a k b) = sem A id a :=
  sem_agree h id fun j hj => upA_ne a b (by omega)

/-- A diagram of n levels. -/
structure BInv (n : Nat) (A : Ar) : Prop where
  inv : ArInv A
  lt : ∀ i d, slot A i = some d → d.l < n
  ne : ∀ i d, slot A i = some d → d.lo ≠ d.hi
theorem BInv.nil (n : Nat) : BInv n [] :=
  ⟨⟨fun i j d h => by simp [slot] at h, fun i d h => by simp [slot] at h, fun i d h => by simp [slot] at h⟩, fun i d h => by simp [slot] at h, fun i d h => by simp [slot] at h⟩

theorem sem_lo {A : Ar} (h : ArInv A) {id : Int} {d : Nd} (hd : ndA A id = some d) (a : Asg) : sem A d.lo a = sem A id (upA a d.l false) := by
  rw [sem_node h hd, upA_same]
  exact (sem_up h (lev_of h hd).1 a false).symm
theorem sem_hi {A : Ar} (h : ArInv A) {id : Int} {d : Nd} (hd : ndA A id = some d) (a : Asg) : sem A d.hi a = sem A id (upA a d.l true) := by
  rw [sem_node h hd, upA_same]
  exact (sem_up h (lev_of h hd).2 a true).symm

/-- Two ids that say the same are one. -/
theorem canon {n : Nat} {A : Ar} (h : BInv n A) : ∀ f g : Int, 0 ≤ lvlA A f → 0 ≤ lvlA A g → (∀ a, sem A f a = sem A g a) → f = g := by
  have key : ∀ (m : Nat) (f g : Int), 0 ≤ lvlA A f → 0 ≤ lvlA A g → 48 - lvlA A f - lvlA A g < m → (∀ a, sem A f a = sem A g a) → f = g := by
    intro m
    induction m with
    | zero =>
      intro f g _ _ hm _
      have := lvlA_le h.inv f
      have := lvlA_le h.inv g
      omega
    | succ m ih =>
      have one : ∀ (f g : Int) (d : Nd), ndA A f = some d → (d.l : Int) < lvlA A g → 0 ≤ lvlA A g → 48 - lvlA A f - lvlA A g < (m + 1 : Nat) → (∀ a, sem A f a = sem A g a) → False := by
        intro f g d hd hlt hg hm hs
        have hl := nd_lvl hd
        have hlev := lev_of h.inv hd
        obtain ⟨i, _, hsl⟩ := nd_place hd
        have e1 : (d.lo : Int) = g := ih _ _ (by omega) hg (by omega) fun a => by rw [sem_lo h.inv hd, hs]; exact sem_up h.inv hlt a false
        have e2 : (d.hi : Int) = g := ih _ _ (by omega) hg (by omega) fun a => by rw [sem_hi h.inv hd, hs]; exact sem_up h.inv hlt a true
        exact h.ne i d hsl (by omega)
      intro f g hf hg hm hs
      cases hfd : ndA A f with
      | none =>
        have hf1 := nd_none hfd hf
        cases hgd : ndA A g with
        | none =>
          have hg1 := nd_none hgd hg
          have := hs fun _ => false
          rw [sem_none hfd, sem_none hgd] at this
          rcases hf1 with rfl | rfl <;> rcases hg1 with rfl | rfl <;> first | rfl | (simp at this)
        | some d' =>
          have hl := nd_lvl hgd
          have := lev_of h.inv hgd
          have h1 := lvlA_le h.inv (d'.lo : Int)
          have h24 := lvl_end (A := A) hf1
          exact (one g f d' hgd (by omega) hf (by omega) fun a => (hs a).symm).elim
      | some d =>
        have hl := nd_lvl hfd
        have hlev := lev_of h.inv hfd
        cases hgd : ndA A g with
        | none =>
          have h24 := lvl_end (A := A) (nd_none hgd hg)
          have h1 := lvlA_le h.inv (d.lo : Int)
          exact (one f g d hfd (by omega) hg (by omega) hs).elim
        | some d' =>
          have hl' := nd_lvl hgd
          have hlev' := lev_of h.inv hgd
          rcases Nat.lt_trichotomy d.l d'.l with hlt | heq | hlt
          · exact (one f g d hfd (by omega) hg (by omega) hs).elim
          · have e1 : (d.lo : Int) = d'.lo := ih _ _ (by omega) (by omega) (by omega) fun a => by rw [sem_lo h.inv hfd, sem_lo h.inv hgd, hs, heq]
            have e2 : (d.hi : Int) = d'.hi := ih _ _ (by omega) (by omega) (by omega) fun a => by rw [sem_hi h.inv hfd, sem_hi h.inv hgd, hs, heq]
            obtain ⟨i, rfl, hi⟩ := nd_place hfd
            obtain ⟨j, rfl, hj⟩ := nd_place hgd
            obtain ⟨l, lo, hi'⟩ := d
            obtain ⟨l', lo', hi''⟩ := d'
            simp only at heq e1 e2
            have e1' : lo = lo' := by omega
            have e2' : hi' = hi'' := by omega
            subst heq; subst e1'; subst e2'
            have := h.inv.uniq i j _ hi hj
            omega
          · exact (one g f d' hgd (by omega) hf (by omega) fun a => (hs a).symm).elim
  intro f g hf hg hs
  exact key 49 f g hf hg (by omega) hs

/-! ### What is said -/
abbrev Fn := Asg → Bool
def Indep (F : Fn) (k : Nat) : Prop := ∀ a b, F (upA a k b) = F a
structure Rep (A : Ar) (id : Int) (F : Fn) : Prop where
  there : 0 ≤ lvlA A id
  says : ∀ a, sem A id a = F a
theorem rep_canon {n : Nat} {A : Ar} (h : BInv n A) {f g : Int} {F : Fn} (hf : Rep A f F) (hg : Rep A g F) : f = g :=
  canon h f g hf.there hg.there fun a => by rw [hf.says, hg.says]
theorem rep_eq {n : Nat} {A : Ar} (h : BInv n A) {f g : Int} {F G : Fn} (hf : Rep A f F) (hg : Rep A g G) : f = g ↔ ∀ a, F a = G a := by
  constructor
  · rintro rfl a; rw [← hf.says, hg.says]
  · intro he
    exact canon h f g hf.there hg.there fun a => by rw [hf.says, hg.says, he]
theorem rep_zero {A : Ar} : Rep A 0 fun _ => false := ⟨by rw [lvl_end (.inl rfl)]; decide, fun a => by rw [sem_none (nd_end (.inl rfl))]; rfl⟩
theorem rep_one {A : Ar} : Rep A 1 fun _ => true := ⟨by rw [lvl_end (.inr rfl)]; decide, fun a => by rw [sem_none (nd_end (.inr rfl))]; rfl⟩
theorem rep_self {A : Ar} {id : Int} (h : 0 ≤ lvlA A id) : Rep A id (sem A id) := ⟨h, fun _ => rfl⟩
theorem Rep.congr {A : Ar} {id : Int} {F G : Fn} (h : Rep A id F) (he : ∀ a, F a = G a) : Rep A id G := ⟨h.there, fun a => (h.says a).trans (he a)⟩
theorem dep_node {n : Nat} {A : Ar} (h : BInv n A) {id : Int} {d : Nd} (hd : ndA A id = some d) : ¬ Indep (sem A id) d.l := fun hi => by
  obtain ⟨i, _, hs⟩ := nd_place hd
  have hlev := lev_of h.inv hd
  have : (d.lo : Int) = d.hi := canon h _ _ (by omega) (by omega) fun a => by rw [sem_lo h.inv hd, sem_hi h.inv hd, hi, hi]
  exact h.ne i d hs (by omega)
/-- What hangs on no level up to k stands below it. -/
theorem rep_level {n : Nat} {A : Ar} (h : BInv n A) {id : Int} {F : Fn} (hr : Rep A id F) {k : Nat} (hk : k < 24) (hi : ∀ j, j ≤ k → Indep F j) : (k : Int) < lvlA A id := by
  cases hd : ndA A id with
  | none => rw [lvl_end (nd_none hd hr.there)]; omega
  | some d =>
    have hl := nd_lvl hd
    rcases Nat.lt_or_ge k d.l with hlt | hge
    · omega
    · exact (dep_node h hd fun a b => by rw [hr.says, hr.says]; exact hi d.l hge a b).elim
theorem rep_indep {A : Ar} (h : ArInv A) {id : Int} {F : Fn} (hr : Rep A id F) {k : Nat} (hk : (k : Int) < lvlA A id) : Indep F k := fun a b => by
  rw [← hr.says, ← hr.says]; exact sem_up h hk a b
theorem rep_top {n : Nat} {A : Ar} (h : BInv n A) {id : Int} {F : Fn} (hr : Rep A id F) {k : Nat} (hn : n ≤ k) : Indep F k := fun a b => by
  rw [← hr.says, ← hr.says]
  have : ∀ id, sem A id (upA a k b) = sem A id a := by
    refine lvl_induct h.inv (fun id hd => ?_) (fun id d hd ih1 ih2 => ?_)
    · rw [sem_none hd, sem_none hd]
    · obtain ⟨i, _, hs⟩ := nd_place hd
      have := h.lt i d hs
      rw [sem_node h.inv hd, sem_node h.inv hd, upA_ne a b (by omega)]
      split
      · exact ih2
      · exact ih1
  exact this id

/-! ### More nodes -/
def Ext (A A' : Ar) : Prop := ∀ i d, slot A i = some d → slot A' i = some d
theorem Ext.refl (A : Ar) : Ext A A := fun _ _ h => h
theorem Ext.trans {A B C : Ar} (h : Ext A B) (k : Ext B C) : Ext A C := fun i d hd => k i d (h i d hd)
theorem Ext.nd {A A' : Ar} (h : Ext A A') {id : Int} {d : Nd} (hd : ndA A id = some d) : ndA A' id = some d := by
  obtain ⟨i, rfl, hs⟩ := nd_place hd
  rw [nd_slot]; exact h i d hs
theorem Ext.lvl {A A' : Ar} (h : Ext A A') {id : Int} (h0 : 0 ≤ lvlA A id) : lvlA A' id = lvlA A id := by
  cases hd : ndA A id with
  | none => rw [lvl_end (nd_none hd h0), lvl_end (nd_none hd h0)]
  | some d => rw [nd_lvl hd, nd_lvl (h.nd hd)]
theorem Ext.sem {A A' : Ar} (hA : ArInv A) (hA' : ArInv A') (h : Ext A A') (a : Asg) : ∀ id, 0 ≤ lvlA A id → Dk.sem A' id a = Dk.sem A id a := by
  refine lvl_induct hA (fun id hd h0 => ?_) (fun id d hd ih1 ih2 _ => ?_)
  · rw [sem_none hd, sem_none (nd_end (nd_none hd h0))]
  · have hlev := lev_of hA hd
    rw [sem_node hA hd, sem_node hA' (h.nd hd)]
    split
    · exact ih2 (by omega)
    · exact ih1 (by omega)
theorem Rep.ext {A A' : Ar} (hA : ArInv A) (hA' : ArInv A') (h : Ext A A') {id : Int} {F : Fn} (hr : Rep A id F) : Rep A' id F :=
  ⟨by rw [h.lvl hr.there]; exact hr.there, fun a => by rw [h.sem hA hA' a id hr.there, hr.says]⟩
theorem ext_put {A : Ar} {n : Nd} : Ext A (putA A n) := fun i d hd => by
  rw [slot_put]
  split
  · rename_i he
    subst he
    rw [slot_free] at hd; cases hd
  · exact hd

/-! ### What is needed, and what is lacking -/
/-- A node says what comes of F when the levels ahead are turned in some way. -/
def Needed (A : Ar) (F : Fn) (i : Nat) (d : Nd) : Prop := ∃ a, ∀ b, sem A ((i : Int) + 2) b = F (mixA d.l a b)
/-- Something that F needs is nowhere. -/
def Lack (A : Ar) (F : Fn) : Prop := ∃ k a, ¬ Indep (fun b => F (mixA k a b)) k ∧ ∀ i d, slot A i = some d → ¬ ∀ b, sem A ((i : Int) + 2) b = F (mixA k a b)
theorem mixA_up_lt {k j : Nat} (h : j < k) (a b : Asg) (x : Bool) : mixA k a (upA b j x) = mixA k a b := by
  funext i
  unfold mixA upA
  split
  · rfl
  · rw [if_neg (by omega)]
theorem mixA_up_ge {k j : Nat} (h : k ≤ j) (a b : Asg) (x : Bool) : mixA k a (upA b j x) = upA (mixA k a b) j x := by
  funext i
  unfold mixA upA
  by_cases h1 : i = j
  · subst h1; simp [Nat.not_lt.2 h]
  · simp [h1]
theorem mixA_upL {k j : Nat} (h : j < k) (a b : Asg) (x : Bool) : mixA k (upA a j x) b = upA (mixA k a b) j x := by
  funext i
  unfold mixA upA
  by_cases h1 : i = j
  · subst h1; simp [h]
  · simp [h1]
theorem mixA_zero (a b : Asg) : mixA 0 a b = b := rfl
theorem indep_mix {F : Fn} {k : Nat} (h : ∀ j, j < k → Indep F j) (a b : Asg) : F (mixA k a b) = F b := by
  have : ∀ m, m ≤ k → F (mixA m a b) = F b := by
    intro m
    induction m with
    | zero => intro _; rfl
    | succ m ih =>
      intro hm
      rw [← ih (by omega)]
      have : mixA (m + 1) a b = upA (mixA m a b) m (a m) := by
        funext i
        unfold mixA upA
        by_cases h1 : i = m
        · subst h1; simp
        · by_cases h2 : i < m
          · simp [h1, h2, show i < m + 1 by omega]
          · simp [h1, h2, show ¬ i < m + 1 by omega]
      rw [this]
      exact h m (by omega) _ _
  exact this k (Nat.le_refl _)
/-- What a node says hangs on its own level; so what it is needed for does. -/
theorem needed_level {n : Nat} {A : Ar} (h : BInv n A) {F : Fn} {i : Nat} {d : Nd} (hs : slot A i = some d) (hn : Needed A F i d) : ¬ Indep F d.l := fun hi => by
  obtain ⟨a, ha⟩ := hn
  refine dep_node h (id := (i : Int) + 2) (by rw [nd_slot]; exact hs) fun b x => ?_
  rw [ha, ha, mixA_up_ge (Nat.le_refl _)]
  exact hi _ _
/-- What is needed for F with a level turned is needed for F, if that hangs on nothing ahead. -/
theorem needed_up {n : Nat} {A : Ar} (h : BInv n A) {F : Fn} {k : Nat} {v : Bool} (hF : ∀ j, j < k → Indep F j) {i : Nat} {d : Nd} (hs : slot A i = some d) (hn : Needed A (fun b => F (upA b k v)) i d) : Needed A F i d := by
  have hlt : k < d.l := by
    rcases Nat.lt_or_ge k d.l with h1 | h1
    · exact h1
    · refine (needed_level h hs hn ?_).elim
      intro a b
      show F (upA (upA a d.l b) k v) = F (upA a k v)
      rcases Nat.eq_or_lt_of_le h1 with he | hlt
      · rw [he, upA_up]
      · rw [upA_comm a (by omega)]
        exact hF d.l hlt _ _
  obtain ⟨a, ha⟩ := hn
  exact ⟨upA a k v, fun b => by rw [ha, mixA_upL hlt]⟩
theorem lack_up {A : Ar} {F : Fn} {k : Nat} {v : Bool} (hF : ∀ j, j < k → Indep F j) (h : Lack A fun b => F (upA b k v)) : Lack A F := by
  obtain ⟨m, a, h1, h2⟩ := h
  have hlt : k < m := by
    rcases Nat.lt_or_ge k m with h3 | h3
    · exact h3
    · refine (h1 ?_).elim
      intro b x
      show F (upA (mixA m a (upA b m x)) k v) = F (upA (mixA m a b) k v)
      rw [mixA_up_ge (Nat.le_refl _)]
      rcases Nat.eq_or_lt_of_le h3 with he | hlt
      · rw [he, upA_up]
      · rw [upA_comm _ (by omega)]
        exact hF m hlt _ _
  refine ⟨m, upA a k v, fun hi => h1 fun b x => ?_, fun i d hs hh => h2 i d hs fun b => ?_⟩
  · have := hi b x
    simp only [mixA_upL hlt] at this
    exact this
  · rw [hh b, mixA_upL hlt]

theorem full_put {A : Ar} {n : Nd} (h : freeA A = A.length) : freeA (putA A n) = (putA A n).length := by
  have h1 := freeA_le (putA A n)
  rcases Nat.eq_or_lt_of_le h1 with h2 | h2
  · exact h2
  · have h3 := slot_free (putA A n)
    rw [slot_put] at h3
    split at h3
    · cases h3
    · rename_i hne
      rw [putA_length, if_pos h] at h2
      obtain ⟨d, hd⟩ := slot_before (A := A) (i := freeA (putA A n)) (by omega)
      rw [hd] at h3; cases h3
theorem full_live {A : Ar} (h : freeA A = A.length) : liveA A = A.length := by
  unfold liveA
  rw [List.countP_eq_length]
  intro x hx
  obtain ⟨i, hi, rfl⟩ := List.getElem_of_mem hx
  obtain ⟨d, hd⟩ := slot_before (A := A) (i := i) (by omega)
  have := slot_get hi
  rw [List.getElem?_eq_getElem hi] at this
  injection this with this
  rw [this, hd]; rfl
/-! ### What comes of making -/
structure Made (n : Nat) (room : Int) (A A' : Ar) (F : Fn) (id e : Int) : Prop where
  ext : Ext A A'
  inv : BInv n A'
  len : (A'.length : Int) ≤ max (A.length : Int) room
  need : ∀ i d, slot A' i = some d → slot A i = none → Needed A' F i d
  res : (e = 0 ∧ Rep A' id F) ∨ (e = 5 ∧ id = 0 ∧ room ≤ (liveA A' : Int) ∧ Lack A' F)
  full : freeA A = A.length → freeA A' = A'.length
theorem Made.refl {n : Nat} {room : Int} {A : Ar} {F : Fn} {id : Int} (h : BInv n A) (hr : Rep A id F) : Made n room A A F id 0 :=
  ⟨Ext.refl A, h, by omega, fun i d h1 h2 => (by rw [h1] at h2; cases h2), .inl ⟨rfl, hr⟩, fun h => h⟩
theorem Made.ok {n : Nat} {room : Int} {A A' : Ar} {F : Fn} {id : Int} (h : Made n room A A' F id 0) : Rep A' id F := by
  rcases h.res with ⟨_, h⟩ | ⟨h, _⟩
  · exact h
  · cases h
theorem Needed.ext {A A' : Ar} (hA : ArInv A) (hA' : ArInv A') (h : Ext A A') {F : Fn} {i : Nat} {d : Nd} (hs : slot A i = some d) (hn : Needed A F i d) : Needed A' F i d := by
  obtain ⟨a, ha⟩ := hn
  refine ⟨a, fun b => ?_⟩
  rw [h.sem hA hA' b _ (by rw [lvlA_slot hs]; omega), ha]
def nodeA (room : Int) (A : Ar) (k : Nat) (lo hi : Int) : Ar × Int × Int := if lo = hi then (A, lo, 0) else mkA room A k lo hi
/-- To make a node of two things that hang on no level up to it. -/
theorem made_node {n : Nat} {room : Int} {A : Ar} (h : BInv n A) {k : Nat} (hk : k < n) (hn : n ≤ 23) {lo hi : Int} {F : Fn} (hF : ∀ j, j < k → Indep F j) (hlo : Rep A lo fun b => F (upA b k false)) (hhi : Rep A hi fun b => F (upA b k true)) :
    Made n room A (nodeA room A k lo hi).1 F (nodeA room A k lo hi).2.1 (nodeA room A k lo hi).2.2 := by
  have hind : ∀ v, ∀ j, j ≤ k → Indep (fun b => F (upA b k v)) j := fun v j hj a b => by
    show F (upA (upA a j b) k v) = F (upA a k v)
    rcases Nat.eq_or_lt_of_le hj with he | hlt
    · rw [he, upA_up]
    · rw [upA_comm a (by omega)]
      exact hF j hlt _ _
  have h1 := rep_level h hlo (by omega) (hind false)
  have h2 := rep_level h hhi (by omega) (hind true)
  have h24 := lvlA_le h.inv
  have h0lo : 0 ≤ lo := by
    rcases lvlA_node hlo.there with e | e | ⟨i, _, e, _⟩ <;> omega
  have h0hi : 0 ≤ hi := by
    rcases lvlA_node hhi.there with e | e | ⟨i, _, e, _⟩ <;> omega
  have hsplit : ∀ b, F b = if b k then F (upA b k true) else F (upA b k false) := fun b => by
    cases hb : b k with
    | true => simp only [if_true]; rw [← hb, upA_self]
    | false => simp only [Bool.false_eq_true, if_false]; rw [← hb, upA_self]
  unfold nodeA
  split
  · rename_i he
    refine Made.refl h ⟨hlo.there, fun a => ?_⟩
    have e1 := hlo.says a
    have e2 := hhi.says a
    rw [← he] at e2
    rw [hsplit a]
    split
    · exact e2
    · exact e1
  · rename_i hne
    unfold mkA
    rw [if_neg (by omega)]
    have hnd : (⟨((k : Int)).toNat, lo.toNat, hi.toNat⟩ : Nd) = ⟨k, lo.toNat, hi.toNat⟩ := by simp
    rw [hnd]
    have elo : ((lo.toNat : Nat) : Int) = lo := by omega
    have ehi : ((hi.toNat : Nat) : Int) = hi := by omega
    have rep_of : ∀ (B : Ar) (i : Nat), ArInv B → Ext A B → slot B i = some ⟨k, lo.toNat, hi.toNat⟩ → Rep B ((i : Int) + 2) F := fun B i hB hx hs => by
      refine ⟨by rw [lvlA_slot hs]; exact Int.natCast_nonneg _, fun a => ?_⟩
      rw [sem_node hB (id := (i : Int) + 2) (by rw [nd_slot]; exact hs)]
      simp only [elo, ehi]
      rw [hsplit a]
      split
      · exact (hhi.ext h.inv hB hx).says a
      · exact (hlo.ext h.inv hB hx).says a
    cases hf : findA A ⟨k, lo.toNat, hi.toNat⟩ with
    | some i =>
      show Made n room A A F (((i + 2 : Nat) : Int)) 0
      refine Made.refl h ?_
      have := rep_of A i h.inv (Ext.refl A) (findA_slot hf)
      rwa [show (((i + 2 : Nat) : Int)) = (i : Int) + 2 by omega]
    | none =>
      simp only
      split
      · rename_i hfull
        show Made n room A A F 0 5
        refine ⟨Ext.refl A, h, by omega, fun i d a b => (by rw [a] at b; cases b), .inr ⟨rfl, rfl, hfull, k, fun _ => false, fun hi => ?_, fun i d hs hh => ?_⟩, fun h => h⟩
        · refine hne (rep_canon h hlo ⟨hhi.there, fun a => ?_⟩)
          have e1 := hi a true
          have e2 := hi a false
          simp only [indep_mix hF] at e1 e2
          rw [hhi.says, e1, e2]
        · have hh' : ∀ b, sem A ((i : Int) + 2) b = F b := fun b => by rw [hh b, indep_mix hF]
          have hd : ndA A ((i : Int) + 2) = some d := by rw [nd_slot]; exact hs
          have hl : d.l = k := by
            rcases Nat.lt_trichotomy d.l k with hlt | he | hgt
            · exact (dep_node h hd fun a b => by rw [hh', hh']; exact hF d.l hlt a b).elim
            · exact he
            · refine (hne (rep_canon h hlo ⟨hhi.there, fun a => ?_⟩)).elim
              rw [hhi.says, ← hh', ← hh', sem_up h.inv (by rw [nd_lvl hd]; omega), sem_up h.inv (by rw [nd_lvl hd]; omega)]
          have e1 : (d.lo : Int) = lo := canon h _ _ (by have := (lev_of h.inv hd).1; omega) hlo.there fun a => by rw [sem_lo h.inv hd, hh', hlo.says, hl]
          have e2 : (d.hi : Int) = hi := canon h _ _ (by have := (lev_of h.inv hd).2; omega) hhi.there fun a => by rw [sem_hi h.inv hd, hh', hhi.says, hl]
          obtain ⟨l, x, y⟩ := d
          simp only at hl e1 e2
          have : (⟨l, x, y⟩ : Nd) = ⟨k, lo.toNat, hi.toNat⟩ := by
            congr 1
            · omega
            · omega
          rw [this] at hs
          exact findA_none.1 hf i hs
      · rename_i hroom
        show Made n room A (putA A ⟨k, lo.toNat, hi.toNat⟩) F (((freeA A + 2 : Nat) : Int)) 0
        have hinv : ArInv (putA A ⟨k, lo.toNat, hi.toNat⟩) := inv_put h.inv hf (by simp only [elo]; exact h1) (by simp only [ehi]; exact h2)
        have hfs : slot (putA A ⟨k, lo.toNat, hi.toNat⟩) (freeA A) = some ⟨k, lo.toNat, hi.toNat⟩ := by rw [slot_put, if_pos rfl]
        have hrep := rep_of _ (freeA A) hinv ext_put hfs
        refine ⟨ext_put, ⟨hinv, fun i d hs => ?_, fun i d hs => ?_⟩, ?_, fun i d hs hn' => ?_, .inl ⟨rfl, ?_⟩, full_put⟩
        · rw [slot_put] at hs
          split at hs
          · injection hs with hs; subst hs; exact hk
          · exact h.lt i d hs
        · rw [slot_put] at hs
          split at hs
          · injection hs with hs; subst hs
            intro e
            simp only at e
            omega
          · exact h.ne i d hs
        · rw [putA_length]
          split
          · rename_i hfl
            have : liveA A = A.length := by
              unfold liveA
              rw [List.countP_eq_length]
              intro x hx
              obtain ⟨i, hi, rfl⟩ := List.getElem_of_mem hx
              obtain ⟨d, hd⟩ := slot_before (A := A) (i := i) (by omega)
              have := slot_get hi
              rw [List.getElem?_eq_getElem hi] at this
              injection this with this
              rw [this, hd]; rfl
            omega
          · omega
        · rw [slot_put] at hs
          split at hs
          · rename_i he
            subst he
            injection hs with hs; subst hs
            exact ⟨fun _ => false, fun b => by rw [hrep.says, indep_mix hF]⟩
          · rw [hs] at hn'; cases hn'
        · rwa [show (((freeA A + 2 : Nat) : Int)) = (freeA A : Int) + 2 by omega]
/-- Two things, then the node of both. -/
theorem made_both {n : Nat} {room : Int} {A A1 A2 : Ar} (hA : BInv n A) {k : Nat} (hk : k < n) (hn : n ≤ 23) {F : Fn} (hF : ∀ j, j < k → Indep F j) {lo hi : Int} (h1 : Made n room A A1 (fun b => F (upA b k false)) lo 0) (h2 : Made n room A1 A2 (fun b => F (upA b k true)) hi 0) :
    Made n room A (nodeA room A2 k lo hi).1 F (nodeA room A2 k lo hi).2.1 (nodeA room A2 k lo hi).2.2 := by
  have hlo := h1.ok.ext h1.inv.inv h2.inv.inv h2.ext
  have h3 := made_node (room := room) h2.inv hk hn hF hlo h2.ok
  generalize nodeA room A2 k lo hi = r at h3
  obtain ⟨A3, id, e⟩ := r
  refine ⟨(h1.ext.trans h2.ext).trans h3.ext, h3.inv, ?_, fun i d hs hn' => ?_, h3.res, fun h => h3.full (h2.full (h1.full h))⟩
  · have := h1.len; have := h2.len; have := h3.len; simp only at *; omega
  · simp only at h3 hs
    cases e2 : slot A2 i with
    | none => exact h3.need i d hs e2
    | some d2 =>
      have hd2 : d2 = d := by have := h3.ext i d2 e2; rw [hs] at this; injection this with this; exact this.symm
      subst hd2
      cases e1 : slot A1 i with
      | none => exact (needed_up h2.inv hF e2 (h2.need i d2 e2 e1)).ext h2.inv.inv h3.inv.inv h3.ext e2
      | some d1 =>
        have hd1 : d1 = d2 := by have := h2.ext i d1 e1; rw [e2] at this; injection this with this; exact this.symm
        subst hd1
        exact (needed_up h1.inv hF e1 (h1.need i d1 e1 hn')).ext h1.inv.inv h3.inv.inv (h2.ext.trans h3.ext) e1
/-- The first of two fails. -/
theorem made_lo {n : Nat} {room : Int} {A A1 : Ar} {k : Nat} {F : Fn} (hF : ∀ j, j < k → Indep F j) {v : Bool} {lo e : Int} (h1 : Made n room A A1 (fun b => F (upA b k v)) lo e) (he : e ≠ 0) : Made n room A A1 F 0 e := by
  refine ⟨h1.ext, h1.inv, h1.len, fun i d hs hn => needed_up h1.inv hF hs (h1.need i d hs hn), ?_, h1.full⟩
  rcases h1.res with ⟨h, _⟩ | ⟨h, _, hr, hl⟩
  · exact absurd h he
  · exact .inr ⟨h, rfl, hr, lack_up hF hl⟩
/-- The second of two fails. -/
theorem made_hi {n : Nat} {room : Int} {A A1 A2 : Ar} {k : Nat} {F : Fn} (hF : ∀ j, j < k → Indep F j) {lo hi e : Int} (h1 : Made n room A A1 (fun b => F (upA b k false)) lo 0) (h2 : Made n room A1 A2 (fun b => F (upA b k true)) hi e) (he : e ≠ 0) : Made n room A A2 F 0 e := by
  have h3 := made_lo hF h2 he
  refine ⟨h1.ext.trans h2.ext, h2.inv, ?_, fun i d hs hn => ?_, h3.res, fun h => h2.full (h1.full h)⟩
  · have := h1.len; have := h2.len; omega
  · cases e1 : slot A1 i with
    | none => exact h3.need i d hs e1
    | some d1 =>
      have hd1 : d1 = d := by have := h2.ext i d1 e1; rw [hs] at this; injection this with this; exact this.symm
      subst hd1
      exact (needed_up h1.inv hF e1 (h1.need i d1 e1 hn)).ext h1.inv.inv h2.inv.inv h2.ext e1
end Go.Dk
end

section
/- Decision diagrams: how many nodes a set needs, and how many are made. Plain Lean. -/
namespace Go.Dk

theorem len_subG {α : Type} [DecidableEq α] : ∀ {a b : List α}, a.Nodup → (∀ k ∈ a, k ∈ b) → a.length ≤ b.length
  | [], b, _, _ => Nat.zero_le _
  | k :: a, b, ha, h => by
    obtain ⟨hk, ha'⟩ := List.nodup_cons.1 ha
    have hb : k ∈ b := h k (.head _)
    have hlt := len_subG (b := b.erase k) ha' fun x hx => (List.mem_erase_of_ne (fun (e : x = k) => hk (by rw [← e]; exact hx))).2 (h x (.tail _ hx))
    rw [List.length_erase_of_mem hb] at hlt
    have := List.length_pos_of_mem hb
    simp only [List.length_cons]; omega
theorem nodup_mapOn {α β : Type} {f : α → β} : ∀ {l : List α}, l.Nodup → (∀ x ∈ l, ∀ y ∈ l, f x = f y → x = y) → (l.map f).Nodup
  | [], _, _ => .nil
  | x :: l, hn, h => by
    obtain ⟨h1, h2⟩ := List.nodup_cons.1 hn
    rw [List.map_cons, List.nodup_cons]
    refine ⟨fun hm => ?_, nodup_mapOn h2 fun a ha b hb => h a (.tail _ ha) b (.tail _ hb)⟩
    obtain ⟨y, hy, he⟩ := List.mem_map.1 hm
    have := h y (.tail _ hy) x (.head _) he
    subst this
    exact h1 hy

/-- What hangs on the levels below n alone. -/
def Low (n : Nat) (F : Fn) : Prop := ∀ a b : Asg, (∀ j, j < n → a j = b j) → F a = F b
theorem sem_low {n : Nat} {A : Ar} (h : BInv n A) (id : Int) : Low n (sem A id) := by
  intro a b hab
  have : ∀ id, sem A id a = sem A id b := by
    refine lvl_induct h.inv (fun id hd => ?_) (fun id d hd ih1 ih2 => ?_)
    · rw [sem_none hd, sem_none hd]
    · obtain ⟨i, _, hs⟩ := nd_place hd
      rw [sem_node h.inv hd, sem_node h.inv hd, hab d.l (h.lt i d hs)]
      split
      · exact ih2
      · exact ih1
  exact this id
theorem Low.indep {n : Nat} {F : Fn} (h : Low n F) {k : Nat} (hk : n ≤ k) : Indep F k := fun a b => h _ _ fun j hj => upA_ne a b (by omega)
theorem Low.mix {n : Nat} {F : Fn} (h : Low n F) (k : Nat) (a : Asg) : Low n fun b => F (mixA k a b) := fun b c hbc => h _ _ fun j hj => by
  unfold mixA; split
  · rfl
  · exact hbc j hj
theorem mix_indep {F : Fn} {k : Nat} (a : Asg) {j : Nat} (hj : j < k) : Indep (fun b => F (mixA k a b)) j := fun b x => by
  show F (mixA k a (upA b j x)) = F (mixA k a b)
  rw [mixA_up_lt hj]

/-! ### Rows -/
def shA (k w : Nat) : Asg := fun j => w.testBit (j - k)
def rowF (n k : Nat) (F : Fn) : List Bool := (List.range (2 ^ (n - k))).map fun w => F (shA k w)
def turnsB (r : List Bool) : Bool := (List.range (r.length / 2)).any fun t => r.getD (2 * t) false != r.getD (2 * t + 1) false
theorem rowF_length (n k : Nat) (F : Fn) : (rowF n k F).length = 2 ^ (n - k) := by simp [rowF]
theorem rowF_get {n k : Nat} {F : Fn} {w : Nat} (hw : w < 2 ^ (n - k)) : (rowF n k F).getD w false = F (shA k w) := by
  unfold rowF
  rw [List.getD_eq_getElem?_getD, List.getElem?_map, List.getElem?_range hw]; rfl
theorem row_at {n k : Nat} {F : Fn} (hF : Low n F) (hi : ∀ j, j < k → Indep F j) (b : Asg) : F b = F (shA k (mkSet (fun t => b (t + k)) (n - k))) := by
  have h1 : F b = F (mixA k b (shA k (mkSet (fun t => b (t + k)) (n - k)))) := hF _ _ fun j hj => by
    unfold mixA shA
    split
    · rfl
    · rename_i hjk
      rw [testBit_mkSet, decide_eq_true (by omega), Bool.true_and, show j - k + k = j by omega]
  rw [h1, indep_mix hi]
theorem row_fn {n k : Nat} {F G : Fn} (hF : Low n F) (hG : Low n G) (hiF : ∀ j, j < k → Indep F j) (hiG : ∀ j, j < k → Indep G j) (h : rowF n k F = rowF n k G) (b : Asg) : F b = G b := by
  have e1 := rowF_get (n := n) (k := k) (F := F) (w := mkSet (fun t => b (t + k)) (n - k)) (mkSet_lt _ _)
  have e2 := rowF_get (n := n) (k := k) (F := G) (w := mkSet (fun t => b (t + k)) (n - k)) (mkSet_lt _ _)
  rw [row_at hF hiF b, row_at hG hiG b, ← e1, ← e2, h]
theorem rowF_congr {n k : Nat} {F G : Fn} (h : ∀ b, F b = G b) : rowF n k F = rowF n k G := by
  have : F = G := funext h
  rw [this]
theorem turns_iff {n k : Nat} {F : Fn} (hF : Low n F) (hi : ∀ j, j < k → Indep F j) (hk : k < n) : turnsB (rowF n k F) = true ↔ ¬ Indep F k := by
  have hp : 2 ^ (n - k) = 2 * 2 ^ (n - k - 1) := by rw [← Nat.pow_succ']; congr 1; omega
  have hodd : ∀ t b : Nat, (b = 0 ∨ b = 1) → F (shA k (2 * t + b)) = F (upA (shA k (2 * t)) k (b == 1)) := fun t b hb => by
    have e1 := indep_mix hi (fun _ => false) (shA k (2 * t + b))
    have e2 := indep_mix hi (fun _ => false) (upA (shA k (2 * t)) k (b == 1))
    rw [← e1, ← e2]
    congr 1
    funext j
    unfold mixA
    split
    · rfl
    · rename_i hjk
      unfold shA upA
      by_cases hj : j = k
      · subst hj
        rw [if_pos rfl, Nat.sub_self, Nat.testBit_zero]
        rcases hb with rfl | rfl
        · simp
        · simp
      · rw [if_neg hj]
        obtain ⟨m, hm⟩ : ∃ m, j - k = m + 1 := ⟨j - k - 1, by omega⟩
        show (2 * t + b).testBit (j - k) = (2 * t).testBit (j - k)
        rw [hm, Nat.testBit_succ, Nat.testBit_succ]
        congr 1
        rcases hb with rfl | rfl <;> omega
  unfold turnsB
  rw [rowF_length, List.any_eq_true]
  constructor
  · rintro ⟨t, ht, hne⟩ hin
    have ht' := List.mem_range.1 ht
    rw [rowF_get (by omega), rowF_get (by omega), hodd t 1 (.inr rfl), hin] at hne
    simp at hne
  · intro hn
    refine Classical.byContradiction fun hno => hn ?_
    have key : ∀ a : Asg, F (upA a k false) = F (upA a k true) := fun a => by
      have ht : mkSet (fun t => a (t + k + 1)) (n - k - 1) < 2 ^ (n - k - 1) := mkSet_lt _ _
      have hb : ∀ v : Bool, F (upA a k v) = F (shA k (2 * mkSet (fun t => a (t + k + 1)) (n - k - 1) + v.toNat)) := fun v => by
        rw [row_at hF hi]
        congr 2
        refine Nat.eq_of_testBit_eq fun i => ?_
        rw [testBit_mkSet]
        cases i with
        | zero =>
          rw [decide_eq_true (by omega), Bool.true_and, Nat.zero_add, upA_same, Nat.testBit_zero]
          cases v <;> simp
        | succ i =>
          rw [Nat.testBit_succ, show (2 * mkSet (fun t => a (t + k + 1)) (n - k - 1) + v.toNat) / 2 = mkSet (fun t => a (t + k + 1)) (n - k - 1) by cases v <;> simp <;> omega, testBit_mkSet,
            upA_ne a v (by omega), show i + 1 + k = i + k + 1 by omega]
          congr 1
          exact decide_eq_decide.2 (by omega)
      generalize mkSet (fun t => a (t + k + 1)) (n - k - 1) = t at ht hb
      have hnt : ¬ ((rowF n k F).getD (2 * t) false != (rowF n k F).getD (2 * t + 1) false) = true := fun h => hno ⟨t, List.mem_range.2 (by omega), h⟩
      rw [rowF_get (by omega), rowF_get (by omega)] at hnt
      rw [hb false, hb true]
      simpa using hnt
    intro a x
    have h0 : ∀ v, F (upA a k v) = F (upA a k true) := fun v => by cases v; exact key a; rfl
    rw [h0 x, ← h0 (a k), upA_self]

/-! ### Sets as functions of levels -/
structure OrdO (o : List Nat) : Prop where
  nodup : o.Nodup
  lt : ∀ i ∈ o, i < o.length
  le : o.length ≤ 8
theorem OrdO.mem {o : List Nat} (h : OrdO o) {i : Nat} (hi : i < o.length) : i ∈ o := by
  refine Classical.byContradiction fun hn => ?_
  have h1 := len_subG (a := i :: o) (b := List.range o.length) (List.nodup_cons.2 ⟨hn, h.nodup⟩) fun k hk => by
    rcases List.mem_cons.1 hk with rfl | hk
    · exact List.mem_range.2 hi
    · exact List.mem_range.2 (h.lt k hk)
  simp at h1
  omega
theorem OrdO.idx_lt {o : List Nat} (h : OrdO o) {i : Nat} (hi : i < o.length) : o.idxOf i < o.length := List.idxOf_lt_length_iff.2 (h.mem hi)
theorem OrdO.get_idx {o : List Nat} (h : OrdO o) {i : Nat} (hi : i < o.length) : o.getD (o.idxOf i) 0 = i := by
  rw [List.getD_eq_getElem?_getD, List.getElem?_eq_getElem (h.idx_lt hi)]
  exact List.getElem_idxOf (h.idx_lt hi)
theorem OrdO.get_lt {o : List Nat} (h : OrdO o) {k : Nat} (hk : k < o.length) : o.getD k 0 < o.length := by
  rw [List.getD_eq_getElem?_getD, List.getElem?_eq_getElem hk]
  exact h.lt _ (List.getElem_mem hk)
theorem OrdO.inj {o : List Nat} (h : OrdO o) {j k : Nat} (hj : j < o.length) (hk : k < o.length) (he : o.getD j 0 = o.getD k 0) : j = k := by
  rw [List.getD_eq_getElem?_getD, List.getElem?_eq_getElem hj, List.getD_eq_getElem?_getD, List.getElem?_eq_getElem hk] at he
  refine (List.getElem?_inj hj h.nodup).1 ?_
  rw [List.getElem?_eq_getElem hj, List.getElem?_eq_getElem hk]
  exact congrArg some he
theorem OrdO.idx_get {o : List Nat} (h : OrdO o) {k : Nat} (hk : k < o.length) : o.idxOf (o.getD k 0) = k :=
  h.inj (h.idx_lt (h.get_lt hk)) hk (h.get_idx (h.get_lt hk))
/-- The point of levels that are turned. -/
def ptA (o : List Nat) (a : Asg) : Nat := mkSet (fun i => a (o.idxOf i)) o.length
def asgP (o : List Nat) (p : Nat) : Asg := fun k => decide (k < o.length) && p.testBit (o.getD k 0)
theorem ptA_lt (o : List Nat) (a : Asg) : ptA o a < 2 ^ o.length := mkSet_lt _ _
theorem testBit_ptA {o : List Nat} (a : Asg) {i : Nat} (hi : i < o.length) : (ptA o a).testBit i = a (o.idxOf i) := by
  unfold ptA; rw [testBit_mkSet, decide_eq_true hi, Bool.true_and]
theorem pt_asg {o : List Nat} (h : OrdO o) {p : Nat} (hp : p < 2 ^ o.length) : ptA o (asgP o p) = p := by
  refine Nat.eq_of_testBit_eq fun i => ?_
  by_cases hi : i < o.length
  · rw [testBit_ptA _ hi]
    unfold asgP
    rw [decide_eq_true (h.idx_lt hi), Bool.true_and, h.get_idx hi]
  · rw [Nat.testBit_lt_two_pow (Nat.lt_of_lt_of_le (ptA_lt _ _) (Nat.pow_le_pow_right (by decide) (by omega))), Nat.testBit_lt_two_pow (Nat.lt_of_lt_of_le hp (Nat.pow_le_pow_right (by decide) (by omega)))]
theorem asg_pt {o : List Nat} (h : OrdO o) (a : Asg) {k : Nat} (hk : k < o.length) : asgP o (ptA o a) k = a k := by
  unfold asgP
  rw [decide_eq_true hk, Bool.true_and, testBit_ptA _ (h.get_lt hk), h.idx_get hk]
theorem ptA_congr {o : List Nat} (h : OrdO o) {a b : Asg} (hab : ∀ k, k < o.length → a k = b k) : ptA o a = ptA o b := by
  refine Nat.eq_of_testBit_eq fun i => ?_
  unfold ptA
  rw [testBit_mkSet, testBit_mkSet]
  by_cases hi : i < o.length
  · rw [hab _ (h.idx_lt hi)]
  · rw [decide_eq_false hi]; rfl
/-- What a set says of levels. -/
def FnS (o : List Nat) (s : Nat) : Fn := fun a => s.testBit (ptA o a)
theorem FnS_low {o : List Nat} (h : OrdO o) (s : Nat) : Low o.length (FnS o s) := fun a b hab => by unfold FnS; rw [ptA_congr h hab]
/-- The set that an id says. -/
def setD (o : List Nat) (A : Ar) (id : Int) : Nat := setOf fun p => decide (p < 2 ^ o.length) && sem A id (asgP o p)
theorem setD_lt (o : List Nat) (A : Ar) (id : Int) : setD o A id < 2 ^ 256 := setOf_lt _
theorem pow_le_256 {n : Nat} (h : n ≤ 8) : 2 ^ n ≤ 256 := Nat.pow_le_pow_right (n := 2) (by decide) h
theorem setD_rep {o : List Nat} (h : OrdO o) {A : Ar} {id : Int} {F : Fn} (hr : Rep A id F) {s : Nat} (hs : s < 2 ^ 256) (hw : ∀ p, s.testBit p = true → p < 2 ^ o.length) (hF : ∀ p, p < 2 ^ o.length → F (asgP o p) = s.testBit p) : setD o A id = s := by
  refine set_ext (setOf_lt _) hs fun p hp => ?_
  unfold setD
  rw [testBit_setOf, decide_eq_true hp, Bool.true_and]
  by_cases hpn : p < 2 ^ o.length
  · rw [decide_eq_true hpn, Bool.true_and, hr.says, hF p hpn]
  · rw [decide_eq_false hpn, Bool.false_and]
    symm
    rw [Bool.eq_false_iff]
    exact fun hh => hpn (hw p hh)
theorem FnS_asg {o : List Nat} (h : OrdO o) (s : Nat) {p : Nat} (hp : p < 2 ^ o.length) : FnS o s (asgP o p) = s.testBit p := by unfold FnS; rw [pt_asg h hp]
theorem FnS_inj {o : List Nat} (h : OrdO o) {s t : Nat} (hs : s < 2 ^ 256) (ht : t < 2 ^ 256) (hsw : ∀ p, s.testBit p = true → p < 2 ^ o.length) (htw : ∀ p, t.testBit p = true → p < 2 ^ o.length) (he : ∀ a, FnS o s a = FnS o t a) : s = t := by
  refine set_ext hs ht fun p hp => ?_
  by_cases hpn : p < 2 ^ o.length
  · rw [← FnS_asg h s hpn, ← FnS_asg h t hpn, he]
  · rw [Bool.eq_false_iff.2 fun hh => hpn (hsw p hh), Bool.eq_false_iff.2 fun hh => hpn (htw p hh)]

/-! ### How many nodes are needed -/
def rowS (o : List Nat) (s k ahead : Nat) : List Bool := rowF o.length k fun b => FnS o s (mixA k (fun j => ahead.testBit j) b)
/-- Rows met, each once, that turn. -/
def metTo (o : List Nat) (s k : Nat) : Nat → List (List Bool)
  | 0 => []
  | m + 1 => if turnsB (rowS o s k m) && !(metTo o s k m).contains (rowS o s k m) then metTo o s k m ++ [rowS o s k m] else metTo o s k m
def metS (o : List Nat) (s k : Nat) : List (List Bool) := metTo o s k (2 ^ k)
def sizeTo (o : List Nat) (s : Nat) : Nat → Nat
  | 0 => 0
  | k + 1 => sizeTo o s k + (metS o s k).length
def sizeS (o : List Nat) (s : Nat) : Nat := sizeTo o s o.length
theorem mem_metTo {o : List Nat} {s k : Nat} {r : List Bool} : ∀ {m : Nat}, r ∈ metTo o s k m ↔ ∃ x, x < m ∧ r = rowS o s k x ∧ turnsB r = true
  | 0 => by simp [metTo]
  | m + 1 => by
    unfold metTo
    have ih := mem_metTo (o := o) (s := s) (k := k) (r := r) (m := m)
    split
    · rename_i hc
      simp only [Bool.and_eq_true] at hc
      rw [List.mem_append, ih, List.mem_singleton]
      constructor
      · rintro (⟨x, hx, h1, h2⟩ | rfl)
        · exact ⟨x, by omega, h1, h2⟩
        · exact ⟨m, by omega, rfl, hc.1⟩
      · rintro ⟨x, hx, h1, h2⟩
        rcases Nat.lt_or_ge x m with hlt | hge
        · exact .inl ⟨x, hlt, h1, h2⟩
        · obtain rfl : x = m := by omega
          exact .inr h1
    · rename_i hc
      rw [ih]
      constructor
      · rintro ⟨x, hx, h1, h2⟩; exact ⟨x, by omega, h1, h2⟩
      · rintro ⟨x, hx, h1, h2⟩
        rcases Nat.lt_or_ge x m with hlt | hge
        · exact ⟨x, hlt, h1, h2⟩
        · obtain rfl : x = m := by omega
          subst h1
          rw [h2, Bool.true_and] at hc
          have hcon : (metTo o s k x).contains (rowS o s k x) = true := by simpa using hc
          rw [List.contains_iff_mem] at hcon
          have := (mem_metTo (o := o) (s := s) (k := k) (m := x)).1 hcon
          exact this
theorem metTo_nodup (o : List Nat) (s k : Nat) : ∀ m, (metTo o s k m).Nodup
  | 0 => .nil
  | m + 1 => by
    unfold metTo
    split
    · rename_i hc
      simp only [Bool.and_eq_true, Bool.not_eq_true'] at hc
      refine List.nodup_append.2 ⟨metTo_nodup o s k m, List.nodup_cons.2 ⟨by simp, .nil⟩, fun a ha b hb e => ?_⟩
      obtain rfl := List.mem_singleton.1 hb
      subst e
      have := List.contains_iff_mem.2 ha
      rw [hc.2] at this; cases this
    · exact metTo_nodup o s k m
/-- All places, with their rows. -/
def needL (o : List Nat) (s : Nat) : Nat → List (Nat × List Bool)
  | 0 => []
  | k + 1 => needL o s k ++ (metS o s k).map fun r => (k, r)
theorem needL_length (o : List Nat) (s : Nat) : ∀ k, (needL o s k).length = sizeTo o s k
  | 0 => rfl
  | k + 1 => by unfold needL sizeTo; rw [List.length_append, List.length_map, needL_length o s k]
theorem mem_needL {o : List Nat} {s : Nat} {k : Nat} {r : List Bool} : ∀ {m : Nat}, (k, r) ∈ needL o s m ↔ k < m ∧ r ∈ metS o s k
  | 0 => by simp [needL]
  | m + 1 => by
    unfold needL
    rw [List.mem_append, mem_needL (m := m), List.mem_map]
    constructor
    · rintro (⟨h1, h2⟩ | ⟨r', h1, h2⟩)
      · exact ⟨by omega, h2⟩
      · injection h2 with e1 e2
        subst e1; subst e2
        exact ⟨by omega, h1⟩
    · rintro ⟨h1, h2⟩
      rcases Nat.lt_or_ge k m with hlt | hge
      · exact .inl ⟨hlt, h2⟩
      · obtain rfl : k = m := by omega
        exact .inr ⟨r, h2, rfl⟩
theorem needL_nodup (o : List Nat) (s : Nat) : ∀ k, (needL o s k).Nodup
  | 0 => .nil
  | k + 1 => by
    unfold needL
    refine List.nodup_append.2 ⟨needL_nodup o s k, nodup_mapOn (metTo_nodup o s k _) fun a _ b _ e => by injection e, fun a ha b hb e => ?_⟩
    obtain ⟨r, _, rfl⟩ := List.mem_map.1 hb
    subst e
    have := (mem_needL.1 ha).1
    omega
/-- A node's place and row. -/
def codeN (n : Nat) (A : Ar) (i : Nat) : Nat × List Bool := match slot A i with | some d => (d.l, rowF n d.l (sem A ((i : Int) + 2))) | none => (0, [])
theorem code_some {n : Nat} {A : Ar} {i : Nat} {d : Nd} (h : slot A i = some d) : codeN n A i = (d.l, rowF n d.l (sem A ((i : Int) + 2))) := by unfold codeN; rw [h]
theorem sem_below {A : Ar} (h : ArInv A) {i : Nat} {d : Nd} (hs : slot A i = some d) {j : Nat} (hj : j < d.l) : Indep (sem A ((i : Int) + 2)) j :=
  fun a b => sem_up h (by rw [lvlA_slot hs]; omega) a b
theorem code_inj {n : Nat} {A : Ar} (h : BInv n A) {i j : Nat} {d d' : Nd} (hi : slot A i = some d) (hj : slot A j = some d') (he : codeN n A i = codeN n A j) : i = j := by
  rw [code_some hi, code_some hj] at he
  injection he with e1 e2
  rw [← e1] at e2
  have := canon h ((i : Int) + 2) ((j : Int) + 2) (by rw [lvlA_slot hi]; omega) (by rw [lvlA_slot hj]; omega)
    (row_fn (sem_low h _) (sem_low h _) (fun k hk => sem_below h.inv hi hk) (fun k hk => sem_below h.inv hj (by omega)) e2)
  omega
/-- A row of a set, by any levels ahead. -/
theorem rowS_of (o : List Nat) (s k : Nat) (a : Asg) : rowS o s k (mkSet a k) = rowF o.length k fun b => FnS o s (mixA k a b) := by
  unfold rowS
  refine rowF_congr fun b => ?_
  congr 1
  funext j
  unfold mixA
  split
  · rename_i hj
    show (mkSet a k).testBit j = a j
    rw [testBit_mkSet, decide_eq_true hj, Bool.true_and]
  · rfl
theorem need_mem {o : List Nat} (ho : OrdO o) {s k : Nat} (hk : k < o.length) (a : Asg) (ht : ¬ Indep (fun b => FnS o s (mixA k a b)) k) : (k, rowF o.length k fun b => FnS o s (mixA k a b)) ∈ needL o s o.length := by
  refine mem_needL.2 ⟨hk, mem_metTo.2 ⟨mkSet a k, mkSet_lt _ _, (rowS_of o s k a).symm, ?_⟩⟩
  exact (turns_iff ((FnS_low ho s).mix k a) (fun j hj => mix_indep a hj) hk).2 ht
theorem needed_code {o : List Nat} (ho : OrdO o) {A : Ar} (h : BInv o.length A) {s : Nat} {i : Nat} {d : Nd} (hs : slot A i = some d) (hn : Needed A (FnS o s) i d) : codeN o.length A i ∈ needL o s o.length := by
  obtain ⟨a, ha⟩ := hn
  rw [code_some hs, rowF_congr ha]
  refine need_mem ho (h.lt i d hs) a fun hi => dep_node h (id := (i : Int) + 2) (by rw [nd_slot]; exact hs) fun b x => ?_
  rw [ha, ha]; exact hi b x
/-- Nodes that are needed are no more than the set needs. -/
theorem needed_count {o : List Nat} (ho : OrdO o) {A : Ar} (h : BInv o.length A) {s : Nat} {P : List Nat} (hP : P.Nodup) (hn : ∀ i ∈ P, ∃ d, slot A i = some d ∧ Needed A (FnS o s) i d) : P.length ≤ sizeS o s := by
  have := len_subG (a := P.map (codeN o.length A)) (b := needL o s o.length) (nodup_mapOn hP fun x hx y hy e => by
    obtain ⟨d, hd, _⟩ := hn x hx
    obtain ⟨d', hd', _⟩ := hn y hy
    exact code_inj h hd hd' e) fun c hc => by
    obtain ⟨i, hi, rfl⟩ := List.mem_map.1 hc
    obtain ⟨d, hd, hnd⟩ := hn i hi
    exact needed_code ho h hd hnd
  rw [List.length_map, needL_length] at this
  exact this
theorem lack_count {o : List Nat} (ho : OrdO o) {A : Ar} (h : BInv o.length A) {s : Nat} {P : List Nat} (hP : P.Nodup) (hn : ∀ i ∈ P, ∃ d, slot A i = some d ∧ Needed A (FnS o s) i d) (hl : Lack A (FnS o s)) : P.length < sizeS o s := by
  obtain ⟨k, a, ht, hno⟩ := hl
  have hk : k < o.length := Nat.lt_of_not_le fun hle => ht (((FnS_low ho s).mix k a).indep hle)
  have := len_subG (a := (k, rowF o.length k fun b => FnS o s (mixA k a b)) :: P.map (codeN o.length A)) (b := needL o s o.length) (List.nodup_cons.2 ⟨fun hm => by
      obtain ⟨i, hi, he⟩ := List.mem_map.1 hm
      obtain ⟨d, hd, _⟩ := hn i hi
      rw [code_some hd] at he
      injection he with e1 e2
      rw [e1] at e2
      exact hno i d hd (row_fn (sem_low h _) ((FnS_low ho s).mix k a) (fun j hj => sem_below h.inv hd (by omega)) (fun j hj => mix_indep a hj) e2), nodup_mapOn hP fun x hx y hy e => by
      obtain ⟨d, hd, _⟩ := hn x hx
      obtain ⟨d', hd', _⟩ := hn y hy
      exact code_inj h hd hd' e⟩) fun c hc => by
    rcases List.mem_cons.1 hc with rfl | hc
    · exact need_mem ho hk a ht
    · obtain ⟨i, hi, rfl⟩ := List.mem_map.1 hc
      obtain ⟨d, hd, hnd⟩ := hn i hi
      exact needed_code ho h hd hnd
  rw [List.length_cons, List.length_map, needL_length] at this
  exact this
/-- What is come to is needed. -/
theorem reach_needed {n : Nat} {A : Ar} (h : BInv n A) {id : Int} {x : Nat} (hr : Rch A id x) : ∃ d, slot A x = some d ∧ Needed A (sem A id) x d := by
  have self : ∀ (i : Nat) (d : Nd), slot A i = some d → Needed A (sem A ((i : Int) + 2)) i d := fun i d hs =>
    ⟨fun _ => false, fun b => (indep_mix (fun j hj => sem_below h.inv hs hj) _ b).symm⟩
  induction hr with
  | self hs => exact ⟨_, hs, self _ _ hs⟩
  | @lo i x d hs _ ih =>
    obtain ⟨d', hd', hn⟩ := ih
    refine ⟨d', hd', needed_up h (k := d.l) (v := false) (fun j hj => sem_below h.inv hs hj) hd' ?_⟩
    obtain ⟨a, ha⟩ := hn
    exact ⟨a, fun b => by rw [ha b, sem_lo h.inv (id := (i : Int) + 2) (by rw [nd_slot]; exact hs)]⟩
  | @hi i x d hs _ ih =>
    obtain ⟨d', hd', hn⟩ := ih
    refine ⟨d', hd', needed_up h (k := d.l) (v := true) (fun j hj => sem_below h.inv hs hj) hd' ?_⟩
    obtain ⟨a, ha⟩ := hn
    exact ⟨a, fun b => by rw [ha b, sem_hi h.inv (id := (i : Int) + 2) (by rw [nd_slot]; exact hs)]⟩
/-- What an id needs is come to. -/
theorem needed_reach {n : Nat} {A : Ar} (h : BInv n A) {k : Nat} (a : Asg) : ∀ id : Int, ¬ Indep (fun b => sem A id (mixA k a b)) k →
    ∃ i d, Rch A id i ∧ slot A i = some d ∧ d.l = k ∧ ∀ b, sem A ((i : Int) + 2) b = sem A id (mixA k a b) := by
  refine lvl_induct h.inv (fun id hd ht => (ht fun b x => by show sem A id _ = sem A id _; rw [sem_none hd, sem_none hd]).elim) (fun id d hd ih1 ih2 ht => ?_)
  obtain ⟨i, rfl, hs⟩ := nd_place hd
  have hlev := lev_of h.inv hd
  rcases Nat.lt_trichotomy d.l k with hlt | he | hgt
  · have hstep : ∀ b, sem A ((i : Int) + 2) (mixA k a b) = sem A (if a d.l then (d.hi : Int) else (d.lo : Int)) (mixA k a b) := fun b => by
      rw [sem_node h.inv hd]
      have : mixA k a b d.l = a d.l := by unfold mixA; rw [if_pos hlt]
      rw [this]
    have hf : (fun b => sem A ((i : Int) + 2) (mixA k a b)) = fun b => sem A (if a d.l then (d.hi : Int) else (d.lo : Int)) (mixA k a b) := funext hstep
    rw [hf] at ht
    cases hal : a d.l with
    | true =>
      simp only [hal, if_true] at ht hstep
      obtain ⟨j, d', h1, h2, h3, h4⟩ := ih2 ht
      exact ⟨j, d', .hi hs h1, h2, h3, fun b => by rw [h4, hstep]⟩
    | false =>
      simp only [hal, Bool.false_eq_true, if_false] at ht hstep
      obtain ⟨j, d', h1, h2, h3, h4⟩ := ih1 ht
      exact ⟨j, d', .lo hs h1, h2, h3, fun b => by rw [h4, hstep]⟩
  · exact ⟨i, d, .self hs, hs, he, fun b => (indep_mix (fun j hj => sem_below h.inv hs (by omega)) a b).symm⟩
  · refine (ht fun b x => ?_).elim
    show sem A ((i : Int) + 2) (mixA k a (upA b k x)) = sem A ((i : Int) + 2) (mixA k a b)
    rw [indep_mix (fun j hj => sem_below h.inv hs (by omega)), indep_mix (fun j hj => sem_below h.inv hs (by omega))]
    exact sem_below h.inv hs hgt b x
/-- What is come to from a set's id is as much as the set needs. -/
theorem reach_count {o : List Nat} (ho : OrdO o) {A : Ar} (h : BInv o.length A) {s : Nat} {id : Int} (hr : Rep A id (FnS o s)) {P : List Nat} (hP : P.Nodup) (hm : ∀ x, x ∈ P ↔ Rch A id x) : P.length = sizeS o s := by
  have hf : sem A id = FnS o s := funext hr.says
  refine Nat.le_antisymm (needed_count ho h hP fun i hi => ?_) ?_
  · have := reach_needed h ((hm i).1 hi)
    rwa [hf] at this
  · have := len_subG (a := needL o s o.length) (b := P.map (codeN o.length A)) (needL_nodup o s _) fun c hc => by
      obtain ⟨k, r⟩ := c
      obtain ⟨hk, hr'⟩ := mem_needL.1 hc
      obtain ⟨x, _, he, ht⟩ := mem_metTo.1 hr'
      subst he
      have ht' := (turns_iff ((FnS_low ho s).mix k _) (fun j hj => mix_indep _ hj) hk).1 ht
      rw [← hf] at ht'
      obtain ⟨i, d, h1, h2, h3, h4⟩ := needed_reach h _ id ht'
      refine List.mem_map.2 ⟨i, (hm i).2 h1, ?_⟩
      rw [code_some h2, h3]
      congr 1
      unfold rowS
      exact rowF_congr fun b => by rw [h4, hf]
    rw [List.length_map, needL_length] at this
    exact this

/-! ### How many are made -/
/-- What hangs on the levels of a list alone. -/
def Hangs (D : List Nat) (F : Fn) : Prop := ∀ a b : Asg, (∀ j ∈ D, a j = b j) → F a = F b
theorem Hangs.indep {D : List Nat} {F : Fn} (h : Hangs D F) {k : Nat} (hk : k ∉ D) : Indep F k := fun a b => h _ _ fun j hj => upA_ne a b fun e => hk (e ▸ hj)
def bel (D : List Nat) (k : Nat) : List Nat := D.filter fun j => decide (j < k)
def codeA (D : List Nat) (k : Nat) (a : Asg) : Nat := 2 ^ (bel D k).length + mkSet (fun t => a ((bel D k).getD t 0)) (bel D k).length
theorem bel_lt {D : List Nat} {k k' : Nat} (hk : k ∈ D) (h : k < k') : (bel D k).length < (bel D k').length := by
  unfold bel
  rw [← List.countP_eq_length_filter, ← List.countP_eq_length_filter]
  induction D with
  | nil => cases hk
  | cons x D ih =>
    have hmono : D.countP (fun j => decide (j < k)) ≤ D.countP fun j => decide (j < k') := List.countP_mono_left fun x _ hx => by simp only [decide_eq_true_eq] at hx ⊢; omega
    rw [List.countP_cons, List.countP_cons]
    rcases List.mem_cons.1 hk with rfl | hk
    · rw [decide_eq_false (Nat.lt_irrefl k), decide_eq_true h]; simp only [Bool.false_eq_true, if_false, if_true]; omega
    · have := ih hk
      by_cases h1 : x < k
      · rw [decide_eq_true h1, decide_eq_true (show x < k' by omega)]; simp only [if_true]; omega
      · rw [decide_eq_false h1]; simp only [Bool.false_eq_true, if_false]; split <;> omega
theorem bel_le {D : List Nat} {k : Nat} (hk : k ∈ D) : (bel D k).length < D.length := by
  have : ∀ D : List Nat, k ∈ D → (D.filter fun j => decide (j < k)).length < D.length := by
    intro D hk
    rw [List.length_filter_lt_length_iff_exists]
    exact ⟨k, hk, by simp⟩
  exact this D hk
theorem codeA_lt {D : List Nat} {k : Nat} (hk : k ∈ D) (a : Asg) : 0 < codeA D k a ∧ codeA D k a < 2 ^ D.length := by
  have h1 : mkSet (fun t => a ((bel D k).getD t 0)) (bel D k).length < 2 ^ (bel D k).length := mkSet_lt _ _
  have h2 := Nat.pow_le_pow_right (show 0 < 2 by decide) (show (bel D k).length + 1 ≤ D.length from bel_le hk)
  rw [Nat.pow_succ] at h2
  have := Nat.one_le_two_pow (n := (bel D k).length)
  unfold codeA
  omega
theorem pow_split {j j' x x' : Nat} (h1 : x < 2 ^ j) (h2 : x' < 2 ^ j') (he : 2 ^ j + x = 2 ^ j' + x') : j = j' ∧ x = x' := by
  rcases Nat.lt_trichotomy j j' with hlt | rfl | hlt
  · have := Nat.pow_le_pow_right (show 0 < 2 by decide) (show j + 1 ≤ j' from hlt)
    rw [Nat.pow_succ] at this; omega
  · exact ⟨rfl, by omega⟩
  · have := Nat.pow_le_pow_right (show 0 < 2 by decide) (show j' + 1 ≤ j from hlt)
    rw [Nat.pow_succ] at this; omega
theorem codeA_inj {D : List Nat} {k k' : Nat} (hk : k ∈ D) (hk' : k' ∈ D) {a a' : Asg} (he : codeA D k a = codeA D k' a') : k = k' ∧ ∀ j ∈ D, j < k → a j = a' j := by
  obtain ⟨e1, e2⟩ := pow_split (mkSet_lt _ _) (mkSet_lt _ _) he
  have hkk : k = k' := by
    rcases Nat.lt_trichotomy k k' with h | h | h
    · have := bel_lt hk h; omega
    · exact h
    · have := bel_lt hk' h; omega
  subst hkk
  refine ⟨rfl, fun j hj hjk => ?_⟩
  have hm : j ∈ bel D k := List.mem_filter.2 ⟨hj, by simpa using hjk⟩
  obtain ⟨t, ht, rfl⟩ := List.getElem_of_mem hm
  have := congrArg (fun m => m.testBit t) e2
  simp only [testBit_mkSet, decide_eq_true ht, Bool.true_and, List.getD_eq_getElem?_getD, List.getElem?_eq_getElem ht] at this
  exact this
/-- Nodes of one diagram that are needed for one thing, which hangs on few levels, are few. -/
theorem needed_few {n : Nat} {A : Ar} (h : BInv n A) {F : Fn} {D : List Nat} (hD : Hangs D F) {P : List Nat} (hP : P.Nodup) (hn : ∀ i ∈ P, ∃ d, slot A i = some d ∧ Needed A F i d) : P.length ≤ 2 ^ D.length - 1 := by
  classical
  have hch : ∀ i, ∃ c : Nat, i ∈ P → ∃ d a, slot A i = some d ∧ d.l ∈ D ∧ (∀ b, sem A ((i : Int) + 2) b = F (mixA d.l a b)) ∧ c = codeA D d.l a := fun i => by
    by_cases hi : i ∈ P
    · obtain ⟨d, hd, a, ha⟩ := hn i hi
      refine ⟨codeA D d.l a, fun _ => ⟨d, a, hd, ?_, ha, rfl⟩⟩
      exact Classical.byContradiction fun hno => needed_level h hd ⟨a, ha⟩ (hD.indep hno)
    · exact ⟨0, fun hh => absurd hh hi⟩
  let f : Nat → Nat := fun i => Classical.choose (hch i)
  have hf : ∀ i ∈ P, ∃ d a, slot A i = some d ∧ d.l ∈ D ∧ (∀ b, sem A ((i : Int) + 2) b = F (mixA d.l a b)) ∧ f i = codeA D d.l a := fun i hi => Classical.choose_spec (hch i) hi
  have := len_subG (a := P.map f) (b := (List.range (2 ^ D.length - 1)).map (· + 1)) (nodup_mapOn hP fun x hx y hy e => by
    obtain ⟨d, a, h1, h2, h3, h4⟩ := hf x hx
    obtain ⟨d', a', h1', h2', h3', h4'⟩ := hf y hy
    rw [h4, h4'] at e
    obtain ⟨e1, e2⟩ := codeA_inj h2 h2' e
    have := canon h ((x : Int) + 2) ((y : Int) + 2) (by rw [lvlA_slot h1]; omega) (by rw [lvlA_slot h1']; omega) fun b => by
      rw [h3, h3', ← e1]
      refine hD _ _ fun j hj => ?_
      unfold mixA
      split
      · rename_i hjk; exact e2 j hj hjk
      · rfl
    omega) fun c hc => by
    obtain ⟨i, hi, rfl⟩ := List.mem_map.1 hc
    obtain ⟨d, a, h1, h2, h3, h4⟩ := hf i hi
    have := codeA_lt h2 a
    rw [h4]
    exact List.mem_map.2 ⟨codeA D d.l a - 1, List.mem_range.2 (by omega), by omega⟩
  simpa using this
def newP (A A' : Ar) : List Nat := (List.range A'.length).filter fun i => (slot A' i).isSome && (slot A i).isNone
theorem newP_nodup (A A' : Ar) : (newP A A').Nodup := List.nodup_range.sublist List.filter_sublist
theorem mem_newP {A A' : Ar} {i : Nat} : i ∈ newP A A' ↔ (∃ d, slot A' i = some d) ∧ slot A i = none := by
  unfold newP
  rw [List.mem_filter, List.mem_range, Bool.and_eq_true, Option.isSome_iff_exists, Option.isNone_iff_eq_none]
  constructor
  · rintro ⟨_, h⟩; exact h
  · rintro ⟨⟨d, h1⟩, h2⟩; exact ⟨slot_lt h1, ⟨d, h1⟩, h2⟩
theorem live_range (A : Ar) : ∀ m, A.length ≤ m → liveA A = ((List.range m).filter fun i => (slot A i).isSome).length := by
  intro m hm
  have h1 : ∀ k, k ≤ A.length → (A.take k).countP (·.isSome) = ((List.range k).filter fun i => (slot A i).isSome).length := by
    intro k
    induction k with
    | zero => intro _; rfl
    | succ k ih =>
      intro hk
      rw [List.range_succ, List.filter_append, List.length_append, ← ih (by omega), List.take_add_one, slot_get (by omega), List.countP_append]
      congr 1
      cases hs : slot A k <;> simp [hs]
  have h2 : ∀ d, ((List.range (A.length + d)).filter fun i => (slot A i).isSome).length = ((List.range A.length).filter fun i => (slot A i).isSome).length := by
    intro d
    induction d with
    | zero => rfl
    | succ d ih =>
      rw [← Nat.add_assoc, List.range_succ, List.filter_append, List.length_append, ih]
      have : slot A (A.length + d) = none := slot_none (by omega)
      simp [this]
  have := h1 A.length (Nat.le_refl _)
  rw [List.take_length] at this
  obtain ⟨d, rfl⟩ : ∃ d, m = A.length + d := ⟨m - A.length, by omega⟩
  rw [h2, ← this]; rfl
theorem live_ext {A A' : Ar} (h : Ext A A') : liveA A' = liveA A + (newP A A').length := by
  have hlen : A.length ≤ max A.length A'.length := by omega
  rw [live_range A (max A.length A'.length) (by omega), live_range A' (max A.length A'.length) (by omega)]
  have hnew : (newP A A').length = ((List.range (max A.length A'.length)).filter fun i => (slot A' i).isSome && (slot A i).isNone).length := by
    refine Nat.le_antisymm (len_subG (newP_nodup A A') fun i hi => ?_) (len_subG (List.nodup_range.sublist List.filter_sublist) fun i hi => ?_)
    · unfold newP at hi
      obtain ⟨h1, h2⟩ := List.mem_filter.1 hi
      exact List.mem_filter.2 ⟨List.mem_range.2 (by have := List.mem_range.1 h1; omega), h2⟩
    · obtain ⟨h1, h2⟩ := List.mem_filter.1 hi
      rw [Bool.and_eq_true, Option.isSome_iff_exists, Option.isNone_iff_eq_none] at h2
      exact mem_newP.2 h2
  rw [hnew]
  generalize max A.length A'.length = m
  induction m with
  | zero => rfl
  | succ m ih =>
    rw [List.range_succ, List.filter_append, List.filter_append, List.filter_append, List.length_append, List.length_append, List.length_append, ih]
    cases h1 : slot A m with
    | some d =>
      have h3 := h m d h1
      simp [h1, h3]; omega
    | none =>
      cases h2 : slot A' m <;> simp [h1, h2]
      omega
theorem made_few {n : Nat} {room : Int} {A A' : Ar} {F : Fn} {id e : Int} (h : Made n room A A' F id e) {D : List Nat} (hD : Hangs D F) : liveA A' ≤ liveA A + (2 ^ D.length - 1) := by
  rw [live_ext h.ext]
  have := needed_few h.inv hD (newP_nodup A A') fun i hi => by
    obtain ⟨⟨d, h1⟩, h2⟩ := mem_newP.1 hi
    exact ⟨d, h1, h.need i d h1 h2⟩
  omega
/-- With room enough it is made. -/
theorem made_ok {n : Nat} {room : Int} {A A' : Ar} {F : Fn} {id e : Int} (h : Made n room A A' F id e) {D : List Nat} (hD : Hangs D F) (hr : (liveA A : Int) + 2 ^ D.length ≤ room) : e = 0 ∧ Rep A' id F := by
  rcases h.res with h1 | ⟨_, _, h2, _⟩
  · exact h1
  · have := made_few h hD
    have hp := Nat.one_le_two_pow (n := D.length)
    have : ((2 ^ D.length : Nat) : Int) = 2 ^ D.length := by simp
    omega
theorem low_hangs {n : Nat} {F : Fn} (h : Low n F) : Hangs (List.range n) F := fun a b hab => h a b fun j hj => hab j (List.mem_range.2 hj)
/-- An empty diagram's room is too small just if more are needed. -/
theorem made_lack {o : List Nat} (ho : OrdO o) {room : Int} {A' : Ar} {s : Nat} {id e : Int} (h : Made o.length room [] A' (FnS o s) id e) (he : e ≠ 0) : e = 5 ∧ id = 0 ∧ room < (sizeS o s : Int) := by
  rcases h.res with ⟨h1, _⟩ | ⟨h1, h2, h3, h4⟩
  · exact absurd h1 he
  · refine ⟨h1, h2, ?_⟩
    have := lack_count ho h.inv (newP_nodup [] A') (fun i hi => by
      obtain ⟨⟨d, h5⟩, h6⟩ := mem_newP.1 hi
      exact ⟨d, h5, h.need i d h5 h6⟩) h4
    have hl := live_ext h.ext
    have : liveA ([] : Ar) = 0 := rfl
    omega
end Go.Dk
end

section
/- Decision diagrams: built from a set; if then else; an input fixed. Plain Lean. -/
namespace Go.Dk

/-- A level as the diagram tells it. -/
def lvlB (n : Nat) (A : Ar) (id : Int) : Int := if id = 0 ∨ id = 1 then (n : Int) else lvlA A id
theorem lvlB_end {n : Nat} {A : Ar} {id : Int} (h : id = 0 ∨ id = 1) : lvlB n A id = n := by unfold lvlB; rw [if_pos h]
theorem lvlB_nd {n : Nat} {A : Ar} {id : Int} {d : Nd} (h : ndA A id = some d) : lvlB n A id = d.l := by
  obtain ⟨i, rfl, _⟩ := nd_place h
  unfold lvlB
  rw [if_neg (by omega), nd_lvl h]
theorem lvlB_there {n : Nat} {A : Ar} {id : Int} : 0 ≤ lvlB n A id ↔ 0 ≤ lvlA A id := by
  unfold lvlB
  split
  · rename_i h; rw [lvl_end h]; omega
  · exact Iff.rfl
theorem lvlB_le {n : Nat} {A : Ar} (h : BInv n A) (id : Int) : lvlB n A id ≤ n := by
  cases hd : ndA A id with
  | none =>
    unfold lvlB
    split
    · exact Int.le_refl _
    · rename_i hne
      have : ¬ 0 ≤ lvlA A id := fun h0 => hne (nd_none hd h0)
      omega
  | some d =>
    obtain ⟨i, _, hs⟩ := nd_place hd
    have := h.lt i d hs
    rw [lvlB_nd hd]; omega
theorem lvlB_leA {n : Nat} {A : Ar} (hn : n ≤ 24) (id : Int) : lvlB n A id ≤ lvlA A id := by
  unfold lvlB
  split
  · rename_i h; rw [lvl_end h]; omega
  · exact Int.le_refl _
theorem lvlB_lt {n : Nat} {A : Ar} {id : Int} (h : 0 ≤ lvlB n A id) (hlt : lvlB n A id < n) : ∃ d, ndA A id = some d ∧ lvlB n A id = d.l := by
  cases hd : ndA A id with
  | none =>
    have := nd_none hd (lvlB_there.1 h)
    rw [lvlB_end this] at hlt; omega
  | some d => exact ⟨d, rfl, lvlB_nd hd⟩

/-! ### From a set -/
/-- The points whose levels ahead are turned so. -/
def pre (o : List Nat) (level : Nat) (c : Asg) : Nat := setOf fun p => decide (p < 2 ^ o.length) && (List.range level).all fun k => p.testBit (o.getD k 0) == c k
theorem pre_lt (o : List Nat) (level : Nat) (c : Asg) : pre o level c < 2 ^ 256 := setOf_lt _
theorem testBit_pre {o : List Nat} (ho : OrdO o) {level : Nat} {c : Asg} {p : Nat} : (pre o level c).testBit p = true ↔ p < 2 ^ o.length ∧ ∀ k, k < level → p.testBit (o.getD k 0) = c k := by
  unfold pre
  rw [testBit_setOf]
  simp only [Bool.and_eq_true, decide_eq_true_eq, List.all_eq_true, List.mem_range, beq_iff_eq]
  have := pow_le_256 ho.le
  constructor
  · rintro ⟨_, h⟩; exact h
  · intro h; exact ⟨by have := h.1; omega, h⟩
theorem pre_zero (o : List Nat) (c : Asg) : pre o 0 c = allN o.length := by
  unfold pre allN
  congr 1
  funext p
  simp
theorem half_pre {o : List Nat} (ho : OrdO o) (level : Nat) (c : Asg) (v : Bool) : halfN (pre o level c) (o.getD level 0) v = pre o (level + 1) (upA c level v) := by
  refine set_ext (halfN_lt _ _ _) (pre_lt _ _ _) fun p hp => ?_
  unfold halfN
  rw [testBit_setOf, decide_eq_true hp, Bool.true_and, Bool.eq_iff_iff, Bool.and_eq_true, testBit_pre ho, testBit_pre ho, beq_iff_eq]
  constructor
  · rintro ⟨⟨h1, h2⟩, h3⟩
    refine ⟨h1, fun k hk => ?_⟩
    by_cases he : k = level
    · subst he; rw [upA_same]; exact h3
    · rw [upA_ne c v he]; exact h2 k (by omega)
  · rintro ⟨h1, h2⟩
    refine ⟨⟨h1, fun k hk => ?_⟩, ?_⟩
    · rw [h2 k (by omega), upA_ne c v (by omega)]
    · rw [h2 level (by omega), upA_same]
theorem pt_pre {o : List Nat} (ho : OrdO o) {level : Nat} (hl : level ≤ o.length) (c b : Asg) : (pre o level c).testBit (ptA o (mixA level c b)) = true := by
  refine (testBit_pre ho).2 ⟨ptA_lt _ _, fun k hk => ?_⟩
  have := asg_pt ho (mixA level c b) (show k < o.length by omega)
  unfold asgP at this
  rw [decide_eq_true (by omega), Bool.true_and] at this
  rw [this]
  unfold mixA; rw [if_pos hk]
theorem pre_pt {o : List Nat} (ho : OrdO o) {level : Nat} {c : Asg} {p : Nat} (h : (pre o level c).testBit p = true) : ptA o (mixA level c (asgP o p)) = p := by
  obtain ⟨h1, h2⟩ := (testBit_pre ho).1 h
  rw [← pt_asg ho h1]
  refine ptA_congr ho fun k hk => ?_
  rw [pt_asg ho h1]
  unfold mixA
  split
  · rename_i hkl
    rw [← h2 k hkl]
    unfold asgP
    rw [decide_eq_true hk, Bool.true_and]
  · rfl
theorem pre_full {o : List Nat} (ho : OrdO o) {c : Asg} {p : Nat} (h : (pre o o.length c).testBit p = true) : p = ptA o c := by
  rw [← pre_pt ho h]
  refine ptA_congr ho fun k hk => ?_
  unfold mixA; rw [if_pos hk]
/-- What a set says behind levels that are turned. -/
def FnL (o : List Nat) (s level : Nat) (c : Asg) : Fn := fun b => FnS o s (mixA level c b)
theorem build_zero {o : List Nat} (ho : OrdO o) {s level : Nat} (hl : level ≤ o.length) {c : Asg} (h : s &&& pre o level c = 0) (A : Ar) : Rep A 0 (FnL o s level c) := by
  refine rep_zero.congr fun b => ?_
  have h1 : (s &&& pre o level c).testBit (ptA o (mixA level c b)) = false := by rw [h]; exact Nat.zero_testBit _
  rw [Nat.testBit_and, pt_pre ho hl, Bool.and_true] at h1
  exact h1.symm
theorem build_all {o : List Nat} (ho : OrdO o) {s level : Nat} (hl : level ≤ o.length) {c : Asg} (h : s &&& pre o level c = pre o level c) (A : Ar) : Rep A 1 (FnL o s level c) := by
  refine rep_one.congr fun b => ?_
  have h1 := pt_pre ho hl c b
  rw [← h, Nat.testBit_and, Bool.and_eq_true] at h1
  exact h1.1.symm
theorem build_lt {o : List Nat} (ho : OrdO o) {s level : Nat} (hl : level ≤ o.length) {c : Asg} (h1 : s &&& pre o level c ≠ 0) (h2 : s &&& pre o level c ≠ pre o level c) : level < o.length := by
  refine Nat.lt_of_le_of_ne hl fun he => ?_
  subst he
  cases hb : s.testBit (ptA o c) with
  | true =>
    refine h2 (set_ext (Nat.lt_of_le_of_lt Nat.and_le_right (pre_lt _ _ _)) (pre_lt _ _ _) fun p _ => ?_)
    rw [Nat.testBit_and]
    cases hp : (pre o o.length c).testBit p with
    | false => rw [Bool.and_false]
    | true => rw [Bool.and_true, pre_full ho hp, hb]
  | false =>
    refine h1 (set_ext (Nat.lt_of_le_of_lt Nat.and_le_right (pre_lt _ _ _)) (by decide) fun p _ => ?_)
    rw [Nat.testBit_and, Nat.zero_testBit]
    cases hp : (pre o o.length c).testBit p with
    | false => rw [Bool.and_false]
    | true => rw [Bool.and_true, pre_full ho hp, hb]
theorem mix_step (level : Nat) (c b : Asg) (v : Bool) : mixA level c (upA b level v) = mixA (level + 1) (upA c level v) b := by
  funext j
  unfold mixA upA
  by_cases h1 : j = level
  · subst h1; simp
  · by_cases h2 : j < level
    · simp [h1, h2, show j < level + 1 by omega]
    · simp [h1, h2, show ¬ j < level + 1 by omega]
theorem FnL_up (o : List Nat) (s level : Nat) (c : Asg) (v : Bool) : (fun b => FnL o s level c (upA b level v)) = FnL o s (level + 1) (upA c level v) := by
  funext b
  unfold FnL
  rw [mix_step]
theorem FnL_indep (o : List Nat) (s level : Nat) (c : Asg) : ∀ j, j < level → Indep (FnL o s level c) j := fun _ hj => mix_indep c hj
theorem FnL_zero (o : List Nat) (s : Nat) (c : Asg) : FnL o s 0 c = FnS o s := rfl

/-! ### If then else -/
def iteF (A : Ar) (f g h : Int) : Fn := fun a => if sem A f a then sem A g a else sem A h a
theorem iteF_ext {A A' : Ar} (hA : ArInv A) (hA' : ArInv A') (hx : Ext A A') {f g h : Int} (hf : 0 ≤ lvlA A f) (hg : 0 ≤ lvlA A g) (hh : 0 ≤ lvlA A h) : iteF A' f g h = iteF A f g h := by
  funext a
  unfold iteF
  rw [hx.sem hA hA' a f hf, hx.sem hA hA' a g hg, hx.sem hA hA' a h hh]
theorem ite_zero {A : Ar} {g h : Int} (hh : 0 ≤ lvlA A h) : Rep A h (iteF A 0 g h) := ⟨hh, fun a => by unfold iteF; rw [sem_none (nd_end (.inl rfl))]; rfl⟩
theorem ite_one {A : Ar} {g h : Int} (hg : 0 ≤ lvlA A g) : Rep A g (iteF A 1 g h) := ⟨hg, fun a => by unfold iteF; rw [sem_none (id := 1) (nd_end (.inr rfl))]; rfl⟩
theorem ite_same {A : Ar} {f g : Int} (hg : 0 ≤ lvlA A g) : Rep A g (iteF A f g g) := ⟨hg, fun a => by unfold iteF; split <;> rfl⟩
theorem ite_indep {A : Ar} (hA : ArInv A) {f g h : Int} {j : Nat} (hf : (j : Int) < lvlA A f) (hg : (j : Int) < lvlA A g) (hh : (j : Int) < lvlA A h) : Indep (iteF A f g h) j := fun a b => by
  unfold iteF
  rw [sem_up hA hf, sem_up hA hg, sem_up hA hh]
def halfI' (A : Ar) (id : Int) (level : Nat) (v : Bool) : Int := match ndA A id with | some d => if d.l = level then (if v then (d.hi : Int) else (d.lo : Int)) else id | none => id
theorem half_sem {A : Ar} (hA : ArInv A) {id : Int} {level : Nat} (hl : (level : Int) ≤ lvlA A id) (v : Bool) (a : Asg) : sem A (halfI' A id level v) a = sem A id (upA a level v) := by
  unfold halfI'
  cases hd : ndA A id with
  | none => simp only; rw [sem_none hd, sem_none hd]
  | some d =>
    have := nd_lvl hd
    simp only
    split
    · rename_i he
      subst he
      cases v
      · exact sem_lo hA hd a
      · exact sem_hi hA hd a
    · rw [sem_up hA (by omega)]
theorem half_level {n : Nat} {A : Ar} (hA : BInv n A) {id : Int} (h0 : 0 ≤ lvlA A id) {level : Nat} (hl : (level : Int) ≤ lvlB n A id) (hn : level < n) (v : Bool) : 0 ≤ lvlA A (halfI' A id level v) ∧ (level : Int) < lvlB n A (halfI' A id level v) := by
  unfold halfI'
  cases hd : ndA A id with
  | none =>
    have := nd_none hd h0
    exact ⟨h0, by rw [lvlB_end this]; omega⟩
  | some d =>
    have h1 := lvlB_nd (n := n) hd
    have h2 := lev_of hA.inv hd
    obtain ⟨i, _, hs⟩ := nd_place hd
    have h3 := hA.lt i d hs
    simp only
    split
    · rename_i he
      have key : ∀ x : Int, (d.l : Int) < lvlA A x → 0 ≤ lvlA A x ∧ (level : Int) < lvlB n A x := fun x hx => by
        refine ⟨by omega, ?_⟩
        unfold lvlB
        split
        · omega
        · omega
      cases v
      · exact key _ h2.1
      · exact key _ h2.2
    · exact ⟨h0, by omega⟩
theorem ite_half {A : Ar} (hA : ArInv A) {f g h : Int} {level : Nat} (hf : (level : Int) ≤ lvlA A f) (hg : (level : Int) ≤ lvlA A g) (hh : (level : Int) ≤ lvlA A h) (v : Bool) :
    iteF A (halfI' A f level v) (halfI' A g level v) (halfI' A h level v) = fun b => iteF A f g h (upA b level v) := by
  funext b
  unfold iteF
  rw [half_sem hA hf, half_sem hA hg, half_sem hA hh]

/-! ### An input fixed -/
def fixF (A : Ar) (id : Int) (level : Nat) (v : Bool) : Fn := fun a => sem A id (upA a level v)
theorem fixF_ext {A A' : Ar} (hA : ArInv A) (hA' : ArInv A') (hx : Ext A A') {id : Int} (h : 0 ≤ lvlA A id) (level : Nat) (v : Bool) : fixF A' id level v = fixF A id level v := by
  funext a
  unfold fixF
  rw [hx.sem hA hA' _ id h]
theorem fix_below {A : Ar} (hA : ArInv A) {id : Int} {level : Nat} (h0 : 0 ≤ lvlA A id) (h : (level : Int) < lvlA A id) (v : Bool) : Rep A id (fixF A id level v) := ⟨h0, fun a => (sem_up hA h a v).symm⟩
theorem fix_at {A : Ar} (hA : ArInv A) {id : Int} {d : Nd} (hd : ndA A id = some d) (v : Bool) : Rep A (if v then (d.hi : Int) else (d.lo : Int)) (fixF A id d.l v) := by
  have := lev_of hA hd
  cases v
  · exact ⟨by simp only [Bool.false_eq_true, if_false]; omega, fun a => sem_lo hA hd a⟩
  · exact ⟨by simp only [if_true]; omega, fun a => sem_hi hA hd a⟩
theorem fix_up {A : Ar} (hA : ArInv A) {id : Int} {d : Nd} (hd : ndA A id = some d) {level : Nat} (hl : d.l < level) (v w : Bool) : (fun b => fixF A id level v (upA b d.l w)) = fixF A (if w then (d.hi : Int) else (d.lo : Int)) level v := by
  funext b
  unfold fixF
  rw [upA_comm b (by omega)]
  cases w
  · exact (sem_lo hA hd _).symm
  · exact (sem_hi hA hd _).symm
theorem fix_indep {A : Ar} (hA : ArInv A) {id : Int} {d : Nd} (hd : ndA A id = some d) {level : Nat} (v : Bool) : ∀ j, j < d.l → Indep (fixF A id level v) j := fun j hj a b => by
  have := nd_lvl hd
  unfold fixF
  by_cases he : j = level
  · subst he; rw [upA_up]
  · rw [upA_comm a he]
    exact sem_up hA (by omega) _ b
/-- What is so with a level turned or not. -/
theorem some_or (F : Fn) (level : Nat) (a : Asg) : (if F (upA a level false) then true else F (upA a level true)) = (F a || F (upA a level (!a level))) := by
  have h := upA_self a level
  cases ha : a level
  · rw [ha] at h
    rw [h]
    simp only [Bool.not_false]
    cases F a <;> simp
  · rw [ha] at h
    rw [h]
    simp only [Bool.not_true]
    cases F a <;> cases F (upA a level false) <;> simp
end Go.Dk
end

section
/- Orders of inputs: moved, and sifted. Plain Lean. -/
namespace Go.Dk

/-! ### Orders -/
structure OrdI (o : List Int) : Prop where
  nodup : o.Nodup
  rng : ∀ x ∈ o, 0 ≤ x ∧ x < o.length
  le : o.length ≤ 8
instance (o : List Int) : Decidable (OrdI o) :=
  if h : o.Nodup ∧ (∀ x ∈ o, 0 ≤ x ∧ x < o.length) ∧ o.length ≤ 8 then .isTrue ⟨h.1, h.2.1, h.2.2⟩ else .isFalse fun hh => h ⟨hh.nodup, hh.rng, hh.le⟩
def natsI (o : List Int) : List Nat := o.map Int.toNat
theorem OrdI.nats {o : List Int} (h : OrdI o) : OrdO (natsI o) := by
  have hl : (natsI o).length = o.length := by simp [natsI]
  refine ⟨nodup_mapOn h.nodup fun x hx y hy e => ?_, fun i hi => ?_, by rw [hl]; exact h.le⟩
  · have := h.rng x hx; have := h.rng y hy; omega
  · obtain ⟨x, hx, rfl⟩ := List.mem_map.1 hi
    have := h.rng x hx
    rw [hl]; omega
theorem natsI_length (o : List Int) : (natsI o).length = o.length := by simp [natsI]
theorem natsI_get {o : List Int} {k : Nat} {x : Int} (h : o[k]? = some x) : (natsI o).getD k 0 = x.toNat := by
  unfold natsI; rw [List.getD_eq_getElem?_getD, List.getElem?_map, h]; rfl
def iotaI (n : Nat) : List Int := (List.range n).map fun k : Nat => (k : Int)
theorem iotaI_nodup (n : Nat) : (iotaI n).Nodup := nodup_mapOn List.nodup_range fun x _ y _ e => by omega
theorem mem_iotaI {n : Nat} {x : Int} : x ∈ iotaI n ↔ 0 ≤ x ∧ x < n := by
  unfold iotaI
  rw [List.mem_map]
  constructor
  · rintro ⟨k, hk, rfl⟩; have := List.mem_range.1 hk; omega
  · rintro ⟨h0, h1⟩; exact ⟨x.toNat, List.mem_range.2 (by omega), by omega⟩
theorem iotaI_length (n : Nat) : (iotaI n).length = n := by simp [iotaI]
theorem OrdI.mem {o : List Int} (h : OrdI o) {x : Int} (h0 : 0 ≤ x) (h1 : x < o.length) : x ∈ o := by
  refine Classical.byContradiction fun hn => ?_
  have h2 := len_subG (a := x :: o) (b := iotaI o.length) (List.nodup_cons.2 ⟨hn, h.nodup⟩) fun k hk => by
    rcases List.mem_cons.1 hk with rfl | hk
    · exact mem_iotaI.2 ⟨h0, h1⟩
    · exact mem_iotaI.2 (h.rng k hk)
  rw [iotaI_length, List.length_cons] at h2
  omega
theorem nodup_of_count {α : Type} [DecidableEq α] : ∀ {l : List α}, (∀ x ∈ l, l.count x ≤ 1) → l.Nodup
  | [], _ => .nil
  | x :: l, h => by
    have h1 := h x (.head _)
    rw [List.count_cons_self] at h1
    refine List.nodup_cons.2 ⟨fun hx => ?_, nodup_of_count fun y hy => ?_⟩
    · have := List.count_pos_iff.2 hx; omega
    · have h2 := h y (.tail _ hy)
      have h3 : l.count y ≤ (x :: l).count y := List.count_le_count_cons
      omega
/-- The reference's test: each input is there once. -/
theorem ordI_count {o : List Int} (hl : o.length ≤ 8) : OrdI o ↔ ∀ i : Nat, i < o.length → o.count (i : Int) = 1 := by
  constructor
  · intro h i hi
    have h1 := List.count_pos_iff.2 (h.mem (x := (i : Int)) (by omega) (by omega))
    have h2 := List.nodup_iff_count.1 h.nodup (i : Int)
    omega
  · intro h
    have hin : ∀ x ∈ o, 0 ≤ x ∧ x < o.length := fun x hx => by
      refine Classical.byContradiction fun hn => ?_
      have h2 := len_subG (a := x :: iotaI o.length) (b := o) (List.nodup_cons.2 ⟨fun hm => hn (mem_iotaI.1 hm), iotaI_nodup _⟩) fun k hk => by
        rcases List.mem_cons.1 hk with rfl | hk
        · exact hx
        · have hk' := mem_iotaI.1 hk
          have := h k.toNat (by omega)
          rw [show ((k.toNat : Nat) : Int) = k by omega] at this
          exact List.count_pos_iff.1 (by omega)
      rw [List.length_cons, iotaI_length] at h2
      omega
    refine ⟨nodup_of_count fun x hx => ?_, hin, hl⟩
    have hx' := hin x hx
    have := h x.toNat (by omega)
    rw [show ((x.toNat : Nat) : Int) = x by omega] at this
    omega

/-! ### Moves -/
def insAt (l : List Int) (x : Int) (p : Nat) : List Int := l.take p ++ x :: l.drop p
def restI (o : List Int) (x : Int) : List Int := o.filter fun y => y != x
def moveI (o : List Int) (x : Int) (p : Nat) : List Int := insAt (restI o x) x p
theorem insAt_length {l : List Int} {x : Int} {p : Nat} : (insAt l x p).length = l.length + 1 := by
  unfold insAt
  rw [List.length_append, List.length_cons, List.length_take, List.length_drop]
  omega
theorem insAt_perm (l : List Int) (x : Int) (p : Nat) : (insAt l x p).Perm (x :: l) := by
  unfold insAt
  have := @List.perm_middle Int x (l.take p) (l.drop p)
  rwa [List.take_append_drop] at this
theorem rest_append (l m : List Int) (x : Int) : restI (l ++ m) x = restI l x ++ restI m x := List.filter_append ..
theorem rest_self {l : List Int} {x : Int} (h : x ∉ l) : restI l x = l := List.filter_eq_self.2 fun y hy => by
  have : y ≠ x := fun e => h (e ▸ hy)
  simpa using this
theorem rest_not (l : List Int) (x : Int) : x ∉ restI l x := fun h => by simpa using (List.mem_filter.1 h).2
/-- An order is its rest, with the input put back. -/
theorem ins_self {o : List Int} (hn : o.Nodup) {i : Nat} {x : Int} (hx : o[i]? = some x) : moveI o x i = o ∧ (restI o x).length + 1 = o.length := by
  obtain ⟨hi, hxe⟩ := List.getElem?_eq_some_iff.1 hx
  have hsp : o = o.take i ++ x :: o.drop (i + 1) := by rw [← hxe, List.getElem_cons_drop, List.take_append_drop]
  have hn' := hn
  rw [hsp] at hn'
  have hp := (List.perm_middle.nodup_iff).1 hn'
  obtain ⟨h1, h2⟩ := List.nodup_cons.1 hp
  rw [List.mem_append, not_or] at h1
  have hr : restI o x = o.take i ++ o.drop (i + 1) := by
    conv => lhs; rw [hsp]
    rw [rest_append, rest_self h1.1]
    congr 1
    unfold restI
    rw [List.filter_cons]
    simp only [bne_self_eq_false, Bool.false_eq_true, if_false]
    exact rest_self h1.2
  have hlt : (o.take i).length = i := by rw [List.length_take]; omega
  refine ⟨?_, ?_⟩
  · unfold moveI insAt
    rw [hr, List.take_left' hlt, List.drop_left' hlt]
    exact hsp.symm
  · rw [hr, List.length_append, hlt, List.length_drop]; omega
theorem rest_len {o : List Int} (h : OrdI o) {x : Int} (h0 : 0 ≤ x) (h1 : x < o.length) : (restI o x).length + 1 = o.length := by
  obtain ⟨i, hi, rfl⟩ := List.getElem_of_mem (h.mem h0 h1)
  exact (ins_self h.nodup (List.getElem?_eq_getElem hi)).2
theorem move_len {o : List Int} (h : OrdI o) {x : Int} (h0 : 0 ≤ x) (h1 : x < o.length) (p : Nat) : (moveI o x p).length = o.length := by
  unfold moveI
  rw [insAt_length, rest_len h h0 h1]
theorem move_ord {o : List Int} (h : OrdI o) {x : Int} (h0 : 0 ≤ x) (h1 : x < o.length) (p : Nat) : OrdI (moveI o x p) := by
  have hl := move_len h h0 h1 p
  have hp := insAt_perm (restI o x) x p
  refine ⟨(hp.nodup_iff).2 (List.nodup_cons.2 ⟨rest_not o x, h.nodup.sublist List.filter_sublist⟩), fun y hy => ?_, by rw [hl]; exact h.le⟩
  rw [hl]
  rcases List.mem_cons.1 (hp.mem_iff.1 hy) with rfl | hy
  · exact ⟨h0, h1⟩
  · exact h.rng y (List.mem_filter.1 hy).1
theorem move_get {o : List Int} {x : Int} {p : Nat} (hp : p ≤ (restI o x).length) : (moveI o x p)[p]? = some x := by
  unfold moveI insAt
  have : ((restI o x).take p).length = p := by rw [List.length_take]; omega
  rw [List.getElem?_append_right (by omega), this, Nat.sub_self]; rfl
theorem ins_up {l : List Int} {x : Int} {p : Nat} (h : p < l.length) : (insAt l x p)[p + 1]? = some l[p] ∧ ((insAt l x p).set p l[p]).set (p + 1) x = insAt l x (p + 1) := by
  have ht : (l.take p).length = p := by rw [List.length_take]; omega
  have e : insAt l x p = l.take p ++ x :: l[p] :: l.drop (p + 1) := by unfold insAt; rw [List.drop_eq_getElem_cons h]
  have e2 : insAt l x (p + 1) = l.take p ++ l[p] :: x :: l.drop (p + 1) := by
    unfold insAt
    rw [List.take_succ_eq_append_getElem h, List.append_assoc]; rfl
  rw [e, e2]
  refine ⟨?_, ?_⟩
  · rw [List.getElem?_append_right (by omega), ht, show p + 1 - p = 1 by omega]; rfl
  · rw [List.set_append_right _ _ (by omega), ht, Nat.sub_self, List.set_cons_zero, List.set_append_right _ _ (by omega), ht, show p + 1 - p = 1 by omega]; rfl
theorem ins_down {l : List Int} {x : Int} {p : Nat} (h : p < l.length) : (insAt l x (p + 1))[p]? = some l[p] ∧ ((insAt l x (p + 1)).set (p + 1) l[p]).set p x = insAt l x p := by
  have ht : (l.take p).length = p := by rw [List.length_take]; omega
  have e : insAt l x p = l.take p ++ x :: l[p] :: l.drop (p + 1) := by unfold insAt; rw [List.drop_eq_getElem_cons h]
  have e2 : insAt l x (p + 1) = l.take p ++ l[p] :: x :: l.drop (p + 1) := by
    unfold insAt
    rw [List.take_succ_eq_append_getElem h, List.append_assoc]; rfl
  rw [e, e2]
  refine ⟨?_, ?_⟩
  · rw [List.getElem?_append_right (by omega), ht, Nat.sub_self]; rfl
  · rw [List.set_append_right _ _ (by omega), ht, show p + 1 - p = 1 by omega]
    show (l.take p ++ l[p] :: ((x :: l.drop (p + 1)).set 0 l[p])).set p x = _
    rw [List.set_cons_zero, List.set_append_right _ _ (by omega), ht, Nat.sub_self, List.set_cons_zero]

/-! ### To sift -/
def bestP (cost : List Int → Nat) (o : List Int) (x : Int) : Nat → List Int
  | 0 => moveI o x 0
  | k + 1 => if cost (moveI o x (k + 1)) < cost (bestP cost o x k) then moveI o x (k + 1) else bestP cost o x k
theorem bestP_at (cost : List Int → Nat) (o : List Int) (x : Int) : ∀ k, ∃ p, p ≤ k ∧ bestP cost o x k = moveI o x p
  | 0 => ⟨0, Nat.le_refl _, rfl⟩
  | k + 1 => by
    obtain ⟨p, hp, he⟩ := bestP_at cost o x k
    unfold bestP
    split
    · exact ⟨k + 1, Nat.le_refl _, rfl⟩
    · exact ⟨p, by omega, he⟩
theorem bestP_le (cost : List Int → Nat) (o : List Int) (x : Int) : ∀ k p, p ≤ k → cost (bestP cost o x k) ≤ cost (moveI o x p)
  | 0, p, hp => by obtain rfl : p = 0 := by omega
                   exact Nat.le_refl _
  | k + 1, p, hp => by
    unfold bestP
    rcases Nat.lt_or_ge p (k + 1) with hlt | hge
    · have := bestP_le cost o x k p (by omega)
      split
      · omega
      · exact this
    · obtain rfl : p = k + 1 := by omega
      split
      · exact Nat.le_refl _
      · omega
/-- One input after another. -/
def siftTo (cost : List Int → Nat) (o : List Int) : Nat → List Int
  | 0 => o
  | k + 1 => bestP cost (siftTo cost o k) (k : Int) (o.length - 1)
def sifts (cost : List Int → Nat) (o : List Int) : Nat → List Int
  | 0 => o
  | r + 1 => siftTo cost (sifts cost o r) (sifts cost o r).length
structure SiftOk (cost : List Int → Nat) (o o' : List Int) : Prop where
  ord : OrdI o'
  len : o'.length = o.length
  le : cost o' ≤ cost o
theorem best_ok {cost : List Int → Nat} {o : List Int} (h : OrdI o) {x : Int} (h0 : 0 ≤ x) (h1 : x < o.length) : SiftOk cost o (bestP cost o x (o.length - 1)) := by
  obtain ⟨p, hp, he⟩ := bestP_at cost o x (o.length - 1)
  obtain ⟨i, hi, hx⟩ := List.getElem_of_mem (h.mem h0 h1)
  have hs := (ins_self h.nodup (show o[i]? = some x by rw [List.getElem?_eq_getElem hi, hx])).1
  have hle := bestP_le cost o x (o.length - 1) i (by omega)
  rw [hs] at hle
  refine ⟨by rw [he]; exact move_ord h h0 h1 p, by rw [he]; exact move_len h h0 h1 p, hle⟩
theorem siftTo_ok {cost : List Int → Nat} {o : List Int} (h : OrdI o) : ∀ k, k ≤ o.length → SiftOk cost o (siftTo cost o k)
  | 0, _ => ⟨h, rfl, Nat.le_refl _⟩
  | k + 1, hk => by
    have ih := siftTo_ok (cost := cost) h k (by omega)
    have hb := best_ok (cost := cost) ih.ord (x := (k : Int)) (by omega) (by rw [ih.len]; omega)
    unfold siftTo
    rw [ih.len] at hb
    exact ⟨hb.ord, hb.len.trans ih.len, Nat.le_trans hb.le ih.le⟩
theorem sifts_ok {cost : List Int → Nat} {o : List Int} (h : OrdI o) : ∀ r, SiftOk cost o (sifts cost o r)
  | 0 => ⟨h, rfl, Nat.le_refl _⟩
  | r + 1 => by
    have ih := sifts_ok (cost := cost) h r
    have hs := siftTo_ok (cost := cost) ih.ord (sifts cost o r).length (Nat.le_refl _)
    exact ⟨hs.ord, hs.len.trans ih.len, Nat.le_trans hs.le ih.le⟩
/-- How many nodes sets need. -/
def sizesS (sets : List Nat) (o : List Int) : Nat := (sets.map (sizeS (natsI o))).sum
end Go.Dk
end

section
/- Graphs of sets as lists of nodes: the graph of a thing in order from the root is one. Plain Lean. -/
namespace Go.Dk

def arN (N : List Nd) : Ar := N.map some
theorem slot_arN (N : List Nd) (i : Nat) : slot (arN N) i = N[i]? := by
  unfold slot arN
  rw [List.getD_eq_getElem?_getD, List.getElem?_map]
  cases N[i]? <;> rfl
theorem arN_length (N : List Nd) : (arN N).length = N.length := by simp [arN]
theorem arN_live (N : List Nd) : liveA (arN N) = N.length := by
  unfold liveA arN
  rw [List.countP_map]
  have : ((·.isSome) ∘ (some : Nd → Option Nd)) = fun _ => true := rfl
  rw [this, List.countP_true]
theorem arN_free (N : List Nd) : freeA (arN N) = N.length := by
  have h := freeA_le (arN N)
  rw [arN_length] at h
  rcases Nat.eq_or_lt_of_le h with h1 | h1
  · exact h1
  · have := slot_free (arN N)
    rw [slot_arN, List.getElem?_eq_getElem h1] at this
    cases this
theorem arN_put (N : List Nd) (d : Nd) : putA (arN N) d = arN (N ++ [d]) := by
  unfold putA
  rw [arN_free, arN_length, if_pos rfl]
  simp [arN]
def nodeN (N : List Nd) (k : Nat) (lo hi : Int) : List Nd × Int :=
  if lo = hi then (N, lo) else
    match findA (arN N) ⟨k, lo.toNat, hi.toNat⟩ with
    | some i => (N, ((i + 2 : Nat) : Int))
    | none => (N ++ [⟨k, lo.toNat, hi.toNat⟩], ((N.length + 2 : Nat) : Int))
theorem nodeN_len (N : List Nd) (k : Nat) (lo hi : Int) : N.length ≤ (nodeN N k lo hi).1.length := by
  unfold nodeN
  split
  · exact Nat.le_refl _
  · split
    · exact Nat.le_refl _
    · simp
theorem nodeN_eq {room : Int} {N : List Nd} (hr : (N.length : Int) < room) {k : Nat} {lo hi : Int} (h1 : (k : Int) < lvlA (arN N) lo) (h2 : (k : Int) < lvlA (arN N) hi) :
    nodeA room (arN N) k lo hi = (arN (nodeN N k lo hi).1, (nodeN N k lo hi).2, 0) := by
  unfold nodeA nodeN
  split
  · rfl
  · unfold mkA
    rw [if_neg (by omega), show ((k : Int)).toNat = k by omega]
    cases findA (arN N) ⟨k, lo.toNat, hi.toNat⟩ with
    | some i => rfl
    | none =>
      simp only
      rw [arN_live, if_neg (by omega), arN_put, arN_free]
theorem nodeN_made {n : Nat} {room : Int} {N : List Nd} (hr : (N.length : Int) < room) (h : BInv n (arN N)) {k : Nat} (hk : k < n) (hn : n ≤ 23) {lo hi : Int} {F : Fn} (hF : ∀ j, j < k → Indep F j)
    (hlo : Rep (arN N) lo fun b => F (upA b k false)) (hhi : Rep (arN N) hi fun b => F (upA b k true)) : Made n room (arN N) (arN (nodeN N k lo hi).1) F (nodeN N k lo hi).2 0 := by
  have hm := made_node (room := room) h hk hn hF hlo hhi
  have hind : ∀ v, ∀ j, j ≤ k → Indep (fun b => F (upA b k v)) j := fun v j hj a b => by
    show F (upA (upA a j b) k v) = F (upA a k v)
    rcases Nat.eq_or_lt_of_le hj with he | hlt
    · rw [he, upA_up]
    · rw [upA_comm a (by omega)]
      exact hF j hlt _ _
  rwa [nodeN_eq hr (rep_level h hlo (by omega) (hind false)) (rep_level h hhi (by omega) (hind true))] at hm
theorem nodeN_both {n : Nat} {room : Int} {A : Ar} {A1 N2 : List Nd} (hr : (N2.length : Int) < room) (hA : BInv n A) {k : Nat} (hk : k < n) (hn : n ≤ 23) {F : Fn} (hF : ∀ j, j < k → Indep F j) {lo hi : Int}
    (h1 : Made n room A (arN A1) (fun b => F (upA b k false)) lo 0) (h2 : Made n room (arN A1) (arN N2) (fun b => F (upA b k true)) hi 0) : Made n room A (arN (nodeN N2 k lo hi).1) F (nodeN N2 k lo hi).2 0 := by
  have hm := made_both hA hk hn hF h1 h2
  have hind : ∀ v, ∀ j, j ≤ k → Indep (fun b => F (upA b k v)) j := fun v j hj a b => by
    show F (upA (upA a j b) k v) = F (upA a k v)
    rcases Nat.eq_or_lt_of_le hj with he | hlt
    · rw [he, upA_up]
    · rw [upA_comm a (by omega)]
      exact hF j hlt _ _
  have hlo := h1.ok.ext h1.inv.inv h2.inv.inv h2.ext
  rwa [nodeN_eq hr (rep_level h2.inv hlo (by omega) (hind false)) (rep_level h2.inv h2.ok (by omega) (hind true))] at hm

/-- To build what says F behind some nodes, in order from the root: low, high, then itself. -/
inductive Bld : List Nd → Fn → List Nd → Int → Prop
  | found {O : List Nd} {F : Fn} {id : Int} : Rep (arN O) id F → Bld O F O id
  | node {O O1 O2 : List Nd} {F : Fn} {k : Nat} {lo hi : Int} : (∀ id, ¬ Rep (arN O) id F) → (∀ j, j < k → Indep F j) → ¬ Indep F k →
      Bld O (fun b => F (upA b k false)) O1 lo → Bld O1 (fun b => F (upA b k true)) O2 hi → Bld O F (nodeN O2 k lo hi).1 (nodeN O2 k lo hi).2
theorem bld_len {O O' : List Nd} {F : Fn} {id : Int} (h : Bld O F O' id) : O.length ≤ O'.length := by
  induction h with
  | found _ => exact Nat.le_refl _
  | node _ _ _ _ _ ih1 ih2 => exact Nat.le_trans (Nat.le_trans ih1 ih2) (nodeN_len _ _ _ _)
theorem Low.up {n : Nat} {F : Fn} (h : Low n F) (k : Nat) (v : Bool) : Low n fun b => F (upA b k v) := fun a b hab => h _ _ fun j hj => by
  unfold upA; split
  · rfl
  · exact hab j hj
theorem bld_made {n : Nat} (hn : n ≤ 23) {room : Int} {O O' : List Nd} {F : Fn} {id : Int} (h : Bld O F O' id) : BInv n (arN O) → Low n F → (O'.length : Int) < room → Made n room (arN O) (arN O') F id 0 := by
  induction h with
  | found hr => intro hO _ _; exact Made.refl hO hr
  | @node O O1 O2 F k lo hi h1 h2 h3 h4 h5 ih1 ih2 =>
    intro hO hF hroom
    have l2 := bld_len h5
    have l3 := nodeN_len O2 k lo hi
    have hk : k < n := Nat.lt_of_not_le fun hle => h3 (hF.indep hle)
    have m1 := ih1 hO (hF.up k false) (by omega)
    have m2 := ih2 m1.inv (hF.up k true) (by omega)
    exact nodeN_both (by omega) hO hk hn h2 m1 m2
/-- There is one way. -/
theorem bld_det {n : Nat} (hn : n ≤ 23) {O O1 : List Nd} {F : Fn} {id1 : Int} (h : Bld O F O1 id1) : BInv n (arN O) → Low n F → ∀ {O2 : List Nd} {id2 : Int}, Bld O F O2 id2 → O1 = O2 ∧ id1 = id2 := by
  induction h with
  | found hr =>
    intro hO _ O2 id2 h2
    cases h2 with
    | found hr2 => exact ⟨rfl, rep_canon hO hr hr2⟩
    | node hno _ _ _ _ => exact absurd hr (hno _)
  | @node O Oa Ob F k lo hi h1 h2 h3 h4 h5 ih1 ih2 =>
    intro hO hF O2 id2 hh
    cases hh with
    | found hr2 => exact absurd hr2 (h1 _)
    | @node _ Oa' Ob' _ k' lo' hi' g1 g2 g3 g4 g5 =>
      have hkk : k = k' := by
        rcases Nat.lt_trichotomy k k' with h | h | h
        · exact absurd (g2 k h) h3
        · exact h
        · exact absurd (h2 k' h) g3
      subst hkk
      obtain ⟨rfl, rfl⟩ := ih1 hO (hF.up k false) g4
      have m1 := bld_made hn (room := (Oa.length : Int) + 1) h4 hO (hF.up k false) (by omega)
      obtain ⟨rfl, rfl⟩ := ih2 m1.inv (hF.up k true) g5
      exact ⟨rfl, rfl⟩
/-- The graph of F. -/
def IsGraph (F : Fn) (N : List Nd) (root : Int) : Prop := Bld [] F N root
theorem graph_det {n : Nat} (hn : n ≤ 23) {F : Fn} (hF : Low n F) {N N' : List Nd} {r r' : Int} (h : IsGraph F N r) (h' : IsGraph F N' r') : N = N' ∧ r = r' := bld_det hn h (BInv.nil n) hF h'
theorem graph_made {n : Nat} (hn : n ≤ 23) {F : Fn} (hF : Low n F) {N : List Nd} {r : Int} (h : IsGraph F N r) : Made n ((N.length : Int) + 1) [] (arN N) F r 0 := bld_made hn h (BInv.nil n) hF (by omega)
/-- It has as many nodes as the set needs. -/
theorem graph_size {o : List Nat} (ho : OrdO o) {s : Nat} {N : List Nd} {r : Int} (h : IsGraph (FnS o s) N r) : N.length = sizeS o s := by
  have hm := graph_made (n := o.length) (by have := ho.le; omega) (FnS_low ho s) h
  have hrep := hm.ok
  have e1 := hm.inv
  refine Nat.le_antisymm ?_ ?_
  · have := needed_count ho e1 (s := s) (P := List.range N.length) List.nodup_range fun i hi => by
      have hi' := List.mem_range.1 hi
      have hs : slot (arN N) i = some N[i] := by rw [slot_arN]; exact List.getElem?_eq_getElem hi'
      exact ⟨_, hs, hm.need i _ hs (by simp [slot])⟩
    simpa using this
  · classical
    have := reach_count ho e1 hrep (P := (List.range N.length).filter fun x => decide (Rch (arN N) r x)) (List.nodup_range.sublist List.filter_sublist) fun x => by
      rw [List.mem_filter, List.mem_range, decide_eq_true_eq]
      constructor
      · exact fun h => h.2
      · intro hx
        obtain ⟨d, hd⟩ := hx.slot
        have := slot_lt hd
        rw [arN_length] at this
        exact ⟨this, hx⟩
    rw [← this]
    have := List.length_filter_le (fun x => decide (Rch (arN N) r x)) (List.range N.length)
    simpa using this

/-! ### To read a graph in order from the root -/
abbrev RdS := List Nd × List (Int × Int)
def readN (N : List Nd) : Nat → Int → RdS → RdS × Int
  | 0, id, s => (s, id)
  | f + 1, id, s =>
    match aget s.2 id with
    | some x => (s, x)
    | none =>
      match ndA (arN N) id with
      | none => (s, id)
      | some d =>
        let r1 := readN N f d.lo s
        let r2 := readN N f d.hi r1.1
        let r := nodeN r2.1.1 d.l r1.2 r2.2
        ((r.1, aset r2.1.2 id r.2), r.2)
structure RdInv (n : Nat) (N : List Nd) (s : RdS) : Prop where
  inv : BInv n (arN s.1)
  rep : ∀ id x, aget s.2 id = some x → 0 ≤ lvlA (arN N) id ∧ Rep (arN s.1) x (sem (arN N) id)
  from_ : ∀ i d, slot (arN s.1) i = some d → ∃ id, aget s.2 id = some ((i : Int) + 2)
  zero : aget s.2 0 = some 0
  one : aget s.2 1 = some 1
theorem rd_start (n : Nat) (N : List Nd) : RdInv n N ([], [(0, 0), (1, 1)]) := by
  refine ⟨BInv.nil n, fun id x h => ?_, fun i d h => by simp [slot, arN] at h, rfl, rfl⟩
  by_cases h0 : id = 0
  · subst h0
    have : x = 0 := by simpa [aget] using h.symm
    subst this
    exact ⟨by rw [lvl_end (.inl rfl)]; decide, rep_zero.congr fun a => (by rw [sem_none (nd_end (.inl rfl))]; rfl)⟩
  · by_cases h1 : id = 1
    · subst h1
      have : x = 1 := by simpa [aget] using h.symm
      subst this
      exact ⟨by rw [lvl_end (.inr rfl)]; decide, rep_one.congr fun a => (by rw [sem_none (nd_end (.inr rfl))]; rfl)⟩
    · have e : aget ([(0, 0), (1, 1)] : List (Int × Int)) id = none := aget_none.2 fun p hp => by
        simp only [List.mem_cons, List.not_mem_nil, or_false] at hp
        rcases hp with rfl | rfl
        · exact fun e => h0 e.symm
        · exact fun e => h1 e.symm
      have h' : aget ([(0, 0), (1, 1)] : List (Int × Int)) id = some x := h
      rw [e] at h'; cases h'
theorem rd_none {n : Nat} {N : List Nd} (hN : BInv n (arN N)) {s : RdS} (h : RdInv n N s) {id : Int} (h0 : 0 ≤ lvlA (arN N) id) (hg : aget s.2 id = none) (y : Int) : ¬ Rep (arN s.1) y (sem (arN N) id) := fun hr => by
  have key : ∀ id', aget s.2 id' = some y → False := fun id' h1 => by
    obtain ⟨h2, h3⟩ := h.rep id' y h1
    have : id' = id := canon hN _ _ h2 h0 fun a => by rw [← h3.says, hr.says]
    rw [this, hg] at h1; cases h1
  rcases lvlA_node hr.there with rfl | rfl | ⟨i, d, rfl, hs, _⟩
  · exact key 0 h.zero
  · exact key 1 h.one
  · obtain ⟨id', h1⟩ := h.from_ i d hs
    exact key id' h1
theorem read_bld {n : Nat} (hn : n ≤ 23) {N : List Nd} (hN : BInv n (arN N)) : ∀ (f : Nat) (id : Int) (s : RdS), 24 - lvlA (arN N) id < f → 0 ≤ lvlA (arN N) id → RdInv n N s →
    RdInv n N (readN N f id s).1 ∧ Bld s.1 (sem (arN N) id) (readN N f id s).1.1 (readN N f id s).2
  | 0, id, s, hf, _, _ => by have := lvlA_le hN.inv id; omega
  | f + 1, id, s, hf, h0, hs => by
    unfold readN
    cases hg : aget s.2 id with
    | some x => exact ⟨hs, .found (hs.rep id x hg).2⟩
    | none =>
      have hnd := rd_none hN hs h0 hg
      cases hd : ndA (arN N) id with
      | none =>
        rcases nd_none hd h0 with rfl | rfl
        · rw [hs.zero] at hg; cases hg
        · rw [hs.one] at hg; cases hg
      | some d =>
        have hl := nd_lvl hd
        have hlev := lev_of hN.inv hd
        obtain ⟨q1, b1⟩ := read_bld hn hN f d.lo s (by omega) (by omega) hs
        obtain ⟨q2, b2⟩ := read_bld hn hN f d.hi (readN N f d.lo s).1 (by omega) (by omega) q1
        simp only
        generalize readN N f d.lo s = r1 at q1 b1 q2 b2
        generalize readN N f d.hi r1.1 = r2 at q2 b2
        obtain ⟨⟨O1, D1⟩, lo⟩ := r1
        obtain ⟨⟨O2, D2⟩, hi⟩ := r2
        simp only at q1 b1 q2 b2 ⊢
        have e1 : sem (arN N) d.lo = fun b => sem (arN N) id (upA b d.l false) := funext fun b => sem_lo hN.inv hd b
        have e2 : sem (arN N) d.hi = fun b => sem (arN N) id (upA b d.l true) := funext fun b => sem_hi hN.inv hd b
        rw [e1] at b1
        rw [e2] at b2
        have hF : ∀ j, j < d.l → Indep (sem (arN N) id) j := fun j hj a b => sem_up hN.inv (by omega) a b
        have hlow := sem_low hN id
        have hk : d.l < n := by obtain ⟨i, _, hsl⟩ := nd_place hd; exact hN.lt i d hsl
        have m1 := bld_made hn (room := (O2.length : Int) + 1) b1 hs.inv (hlow.up d.l false) (by have := bld_len b2; omega)
        have m2 := bld_made hn (room := (O2.length : Int) + 1) b2 q1.inv (hlow.up d.l true) (by omega)
        have m3 := nodeN_both (room := (O2.length : Int) + 1) (by omega) hs.inv hk hn hF m1 m2
        have hx2 : Ext (arN O2) (arN (nodeN O2 d.l lo hi).1) := by
          unfold nodeN
          split
          · exact Ext.refl _
          · split
            · exact Ext.refl _
            · simp only; rw [← arN_put]; exact ext_put
        refine ⟨⟨m3.inv, fun id' x hx => ?_, fun i d' hsl => ?_, ?_, ?_⟩, .node hnd hF (dep_node hN hd) b1 b2⟩
        · rw [aget_aset] at hx
          split at hx
          · rename_i he
            injection hx with hx
            subst hx; subst he
            exact ⟨h0, m3.ok⟩
          · obtain ⟨g1, g2⟩ := q2.rep id' x hx
            exact ⟨g1, g2.ext q2.inv.inv m3.inv.inv hx2⟩
        · have hold : ∀ i d', slot (arN O2) i = some d' → ∃ id', aget (aset D2 id (nodeN O2 d.l lo hi).2) id' = some ((i : Int) + 2) := fun i0 d0' hs2 => by
            obtain ⟨id', hid⟩ := q2.from_ i0 d0' hs2
            refine ⟨id', ?_⟩
            rw [aget_aset, if_neg]
            · exact hid
            · rintro rfl
              obtain ⟨_, g2⟩ := q2.rep id' _ hid
              -- what is read is not there before its parts are read
              have hlt : d.l < n := hk
              cases h1 : slot (arN O1) i0 with
              | none =>
                refine needed_level q2.inv hs2 (m2.need i0 d0' hs2 h1) ?_
                have hl' : d0'.l = d.l ∨ d0'.l < d.l ∨ d.l < d0'.l := by omega
                have hdd : ndA (arN O2) ((i0 : Int) + 2) = some d0' := by rw [nd_slot]; exact hs2
                have hdep := dep_node q2.inv hdd
                have hsem : sem (arN O2) ((i0 : Int) + 2) = sem (arN N) id' := funext g2.says
                rw [hsem] at hdep
                rcases hl' with h | h | h
                · intro a b
                  show sem (arN N) id' (upA (upA a d0'.l b) d.l true) = sem (arN N) id' (upA a d.l true)
                  rw [h, upA_up]
                · exact absurd (hF d0'.l h) hdep
                · exact absurd (rep_indep q2.inv.inv (rep_self (A := arN O2) (id := (i0 : Int) + 2) (by rw [lvlA_slot hs2]; omega)) (k := d.l) (by rw [lvlA_slot hs2]; omega)) (by rw [hsem]; exact dep_node hN hd)
              | some d1 =>
                have hd1 : d1 = d0' := by have := m2.ext i0 d1 h1; rw [hs2] at this; injection this with this; exact this.symm
                subst hd1
                cases h00 : slot (arN s.1) i0 with
                | none =>
                  refine needed_level q1.inv h1 (m1.need i0 d1 h1 h00) ?_
                  have hl' : d1.l = d.l ∨ d1.l < d.l ∨ d.l < d1.l := by omega
                  have hdd : ndA (arN O2) ((i0 : Int) + 2) = some d1 := by rw [nd_slot]; exact hs2
                  have hdep := dep_node q2.inv hdd
                  have hsem : sem (arN O2) ((i0 : Int) + 2) = sem (arN N) id' := funext g2.says
                  rw [hsem] at hdep
                  rcases hl' with h | h | h
                  · intro a b
                    show sem (arN N) id' (upA (upA a d1.l b) d.l false) = sem (arN N) id' (upA a d.l false)
                    rw [h, upA_up]
                  · exact absurd (hF d1.l h) hdep
                  · exact absurd (rep_indep q2.inv.inv (rep_self (A := arN O2) (id := (i0 : Int) + 2) (by rw [lvlA_slot hs2]; omega)) (k := d.l) (by rw [lvlA_slot hs2]; omega)) (by rw [hsem]; exact dep_node hN hd)
                | some d0 =>
                  refine hnd ((i0 : Int) + 2) ⟨by rw [lvlA_slot h00]; omega, fun a => ?_⟩
                  rw [← g2.says, (m1.ext.trans m2.ext).sem hs.inv.inv q2.inv.inv a _ (by rw [lvlA_slot h00]; omega)]
          rw [slot_arN] at hsl
          unfold nodeN at hsl ⊢
          split at hsl
          · rename_i he
            simp only [he, if_true] at hold ⊢
            unfold nodeN at hold
            simp only [if_true] at hold
            exact hold i d' (by rw [slot_arN]; exact hsl)
          · rename_i hne
            unfold nodeN at hold
            rw [if_neg hne] at hold ⊢
            cases hf : findA (arN O2) ⟨d.l, lo.toNat, hi.toNat⟩ with
            | some j =>
              rw [hf] at hsl hold
              simp only at hsl hold ⊢
              exact hold i d' (by rw [slot_arN]; exact hsl)
            | none =>
              rw [hf] at hsl hold
              simp only at hsl hold ⊢
              by_cases hi : i < O2.length
              · rw [List.getElem?_append_left hi] at hsl
                exact hold i d' (by rw [slot_arN]; exact hsl)
              · have hil := (List.getElem?_eq_some_iff.1 hsl).1
                have : i = O2.length := by simp at hil; omega
                subst this
                exact ⟨id, by rw [aget_aset, if_pos rfl]; rfl⟩
        · rw [aget_aset, if_neg]
          · exact q2.zero
          · rintro rfl
            rw [hs.zero] at hg; cases hg
        · rw [aget_aset, if_neg]
          · exact q2.one
          · rintro rfl
            rw [hs.one] at hg; cases hg
/-- Read from the root: the graph of what it says. -/
theorem read_graph {n : Nat} (hn : n ≤ 23) {N : List Nd} (hN : BInv n (arN N)) {root : Int} (h0 : 0 ≤ lvlA (arN N) root) :
    IsGraph (sem (arN N) root) (readN N 26 root ([], [(0, 0), (1, 1)])).1.1 (readN N 26 root ([], [(0, 0), (1, 1)])).2 :=
  (read_bld hn hN 26 root _ (by omega) h0 (rd_start n N)).2
end Go.Dk
end

section
/- Coverings: rows that are kept. -/
namespace Go.Proofs.Ytjebpngdinbckaa
open Go.Dk
attribute [local irreducible] IntKind.wrap

/-- The rows that are kept. -/
def keepI (p : Nat → List Int → Bool) : Nat → Mat → Mat
  | _, [] => []
  | i, r :: R => if p i r then r :: keepI p (i + 1) R else keepI p (i + 1) R
theorem keepI_append (p : Nat → List Int → Bool) : ∀ (i : Nat) (R T : Mat), keepI p i (R ++ T) = keepI p i R ++ keepI p (i + R.length) T
  | i, [], T => by simp [keepI]
  | i, r :: R, T => by
    have e : i + 1 + R.length = i + (r :: R).length := by simp; omega
    simp only [List.cons_append, keepI]
    rw [keepI_append p (i + 1) R T, e]
    split <;> rfl
theorem keepI_snoc (p : Nat → List Int → Bool) {R : Mat} {i : Nat} {x : List Int} (hx : R[i]? = some x) : keepI p 0 (R.take (i + 1)) = keepI p 0 (R.take i) ++ (if p i x then [x] else []) := by
  have hi := (List.getElem?_eq_some_iff.1 hx).1
  rw [List.take_add_one, hx, keepI_append, List.length_take, Nat.min_eq_left (by omega), Nat.zero_add]
  simp only [Option.toList_some, keepI]
theorem keepI_len (p : Nat → List Int → Bool) : ∀ (i : Nat) (R : Mat), (keepI p i R).length ≤ R.length
  | _, [] => Nat.le_refl _
  | i, r :: R => by
    have := keepI_len p (i + 1) R
    simp only [keepI]
    split <;> simp only [List.length_cons] <;> omega
theorem zero91 : zeroT Try.prog 91 = some (mv 0 (.slice none 0 0)) := by kernel_rfl
theorem T89 : SlT Try.prog 89 32 (.slice none 0 0) 1 24 := ⟨Try.underlying89, by kernel_rfl, rfl, by decide⟩
theorem build91a {a : Int} {w : World} {kk : Value → World → Prop} (h : kk (mv a (.slice none 0 0)) w) : buildK Try.prog 91 [(0, .int .i64 a)] w kk := build_by (fun w => by kernel_rfl) h
theorem size89 : sizeT Try.prog 89 = some 1 := by kernel_rfl
theorem mc_one {cols : Int} {A : Option Addr} {l c : Nat} : ∀ v ∈ (mc cols (.slice A l c)).toList, v.oneCell' = true := by
  intro v hv
  simp [mc] at hv
  rcases hv with rfl | rfl <;> rfl
theorem call_fnC {P : Program} {g : FuncId} {caps : Array Value} {args : List Value} {w : World} {k : Value → World → Prop} {q : Value → World → Prop} (h : Fun P g (args ++ caps.toList) w q) (hk : ∀ v w', q v w' → k v w') :
    callK P (.func (.func g) #[] caps) args w k := by
  unfold callK
  exact h.mono hk
/-- What a call hands back: a covering's rows, in S or new. -/
structure NewM (S : Nat → Prop) (w w' : World) (v : Value) (R : Mat) : Prop where
  keeps : Same w w'
  mat : ∃ S', matOk S' v R w' ∧ ∀ g, S' g → g < w'.heap.size ∧ (w.heap.size ≤ g ∨ S g)
theorem ent172 : enters Try.prog 172 = true := by kernel_rfl
theorem c172 (cols : Int) (R : Mat) (v1 : Value) (S : Nat → Prop) (g : FuncId) (caps : Array Value) (p : Nat → List Int → Bool) (w : World) (hl : R.length ≤ 1000000000) (h1 : matOk S v1 R w) (hS : ∀ g, S g → g < w.heap.size)
    (hp : ∀ (i : Nat) (ks : List Int) (B : Option Addr) (c : Nat) (w1 : World), R[i]? = some ks → Same w w1 → Sl w (.slice B ks.length c) 1 ks.length (intsI ks) →
      Fun Try.prog g (([.int .i64 (i : Int), .slice B ks.length c] : List Value) ++ caps.toList) w1 fun v w' => v = .bool (p i ks) ∧ Same w1 w') :
    Fun Try.prog 172 [mv cols v1, .func (.func g) #[] caps] w fun v w' => ∃ v', v = mv cols v' ∧ NewM S w w' v' (keepI p 0 R) := by
  refine fun_of_W (N := 31) Try.func172 ent172 rfl rfl rfl (by simp) ?_
  have H := Hp.start0 w
  obtain ⟨A, ca, va, rfl, ha0, hr0⟩ := h1
  have ha : Sl w (.slice A R.length ca) 1 R.length va := sl.mono ha0 hS
  have hvl : va.length = R.length := by have := ha.1; omega
  refine H.box 91 (mv _ _) (cs := mc _ _) rfl ?_
  clear H
  intro g1 w1 H
  refine H.alloc 91 zero91 rfl ?_
  clear H
  intro g2 w2 H
  refine cut_rule (γ := Nat) _ rfl (fun g3 => [(5, .pointer (some ⟨g3, 0, none⟩))]) (fun g3 w' => Hp w (fun _ => False) w' [blk g3 91 (mc cols (.slice none 0 0)), blk g2 91 (mv 0 (.slice none 0 0)).cells, blk g1 91 (mc cols (.slice A R.length ca))] []) ?_ ?_
  · refine fieldAddr_by (fa91_0 _) ?_
    refine H.load 1 rfl agg3 rfl ?_
    refine build91a ?_
    refine H.alloc 91 zero91 rfl ?_ 
    clear H 
    intro g3 w3 H
    refine H.storeAll 0 rfl size91 rfl (fun v hv => mc_one v hv) ?_ 
    clear H 
    intro w7 H
    exact ⟨_, ⟨rfl, trivial⟩, H⟩
  · clear H
    rintro g3 u w3 H
    replace H : Hp _ _ _ _ _ := H
    replace H := (H.ownNil 32 1).front 1 rfl
    refine cut_rule (γ := Option Addr × Nat × List Value) _ rfl (fun _ => []) (fun (B, d, hs) w' => (hs.length = (keepI p 0 R).length ∧ ∀ (j : Nat) (u : Value) (ks : List Int), hs[j]? = some u → (keepI p 0 R)[j]? = some ks → rowV S w u ks) ∧
      Hp w (fun _ => False) w' [blk g3 91 (mc cols (.slice B hs.length d)), own 32 1 (.slice B hs.length d) hs.length hs, blk g2 91 (mv 0 (.slice none 0 0)).cells, blk g1 91 (mc cols (.slice A R.length ca))] []) ?_ ?_
    · refine fieldAddr_by (fa91_1 _) ?_
      refine H.load 3 rfl agg89 rfl ?_
      refine len_sl Try.underlying89 ?_
      refine loop_rule (γ := Nat × Option Addr × Nat × List Value) _ rfl (fun (i, _) => [(14, .int .i64 (i : Int))])
        (fun (i, B, d, hs) w' => (i ≤ R.length ∧ hs.length = (keepI p 0 (R.take i)).length ∧ ∀ (j : Nat) (u : Value) (ks : List Int), hs[j]? = some u → (keepI p 0 (R.take i))[j]? = some ks → rowV S w u ks) ∧
          Hp w (fun _ => False) w' [blk g3 91 (mc cols (.slice B hs.length d)), own 32 1 (.slice B hs.length d) hs.length hs, blk g2 91 (mv 0 (.slice none 0 0)).cells, blk g1 91 (mc cols (.slice A R.length ca))] [])
        (fun (i, _) => R.length - i) (0, none, 0, []) ⟨rfl, trivial⟩ ⟨⟨Nat.zero_le _, by simp [keepI], fun j u ks h => by simp at h⟩, H⟩ ?_
      clear H
      rintro ⟨i, B, d, hs⟩ u w4 ⟨⟨hi, hhl, hrs⟩, H⟩
      replace H : Hp _ _ _ _ _ := H
      refine cond_dec (fun h7 => ?_) (fun h7 => ?_)
      · obtain ⟨x, hx⟩ : ∃ x, R[i]? = some x := ⟨_, List.getElem?_eq_getElem (by omega)⟩
        have hu : va[i]? = some (va[i]'(by omega)) := List.getElem?_eq_getElem (by omega)
        obtain ⟨Bx, cx, hux, hsx0⟩ := hr0 i _ x hu hx
        rw [hux] at hu
        have hsx : Sl w (.slice Bx x.length cx) 1 x.length (intsI x) := sl.mono hsx0 hS
        obtain ⟨g0, o0, rfl⟩ := ha.A (by omega)
        have hsn := keepI_snoc p hx
        refine idxAddr_sl Try.underlying89 (s := 1) size32 i rfl (by omega) (o' := o0 + i) (by omega) ?_
        refine H.loadSl (i := i) ha aggrow _ rfl hu ?_
        refine call_fnC (hp i x Bx cx _ hx H.keeps hsx) ?_
        rintro _ w5 ⟨rfl, hk⟩
        replace H := H.same hk
        clear hk
        refine cond_split (fun hb => ?_) (fun hb => ?_)
        · rw [if_pos hb] at hsn
          refine fieldAddr_by (fa91_1 _) ?_
          refine H.load 0 rfl agg89 rfl ?_
          refine H.buildOne T89 rfl ?_ 
          clear H 
          intro g5 w6 H
          have hb1 : hs.length ≤ 1000000000 := by have := keepI_len p 0 (R.take i); rw [List.length_take] at this; omega
          refine H.appendOne 1 T89 rfl rfl (by omega) (by omega) ?_
          clear H
          intro B2 d2 w7 H
          refine fieldAddr_by (fa91_1 _) ?_
          refine H.store 0 rfl size89 (by show 1 < 2; decide) rfl ?_
          clear H
          intro w8 H
          have hli : (hs ++ [Value.slice Bx x.length cx]).length = hs.length + 1 := by simp
          refine ⟨(i + 1, B2, d2, hs ++ [Value.slice Bx x.length cx]), by show R.length - (i + 1) < R.length - i; omega, ⟨up (by omega), trivial⟩, ⟨by show i + 1 ≤ R.length; omega, by rw [hsn, hli, List.length_append, hhl]; rfl, ?_⟩, by rw [hli]; exact H⟩
          intro j u ks hj hks
          rw [hsn] at hks
          by_cases hjl : j < hs.length
          · rw [List.getElem?_append_left hjl] at hj
            rw [List.getElem?_append_left (by omega)] at hks
            exact hrs j u ks hj hks
          · rw [List.getElem?_append_right (by omega)] at hj hks
            have hj0 : j - hs.length = 0 := by have := (List.getElem?_eq_some_iff.1 hj).1; simp at this; omega
            rw [← hhl, hj0] at hks
            rw [hj0] at hj
            simp at hj hks
            subst hj; subst hks
            exact ⟨Bx, cx, rfl, hsx0⟩
        · rw [if_neg (by rw [hb]; decide), List.append_nil] at hsn
          exact ⟨(i + 1, B, d, hs), by show R.length - (i + 1) < R.length - i; omega, ⟨up (by omega), trivial⟩, ⟨by show i + 1 ≤ R.length; omega, by rw [hsn]; exact hhl, by rw [hsn]; exact hrs⟩, H⟩
      · have : i = R.length := by omega
        subst this
        rw [List.take_length] at hhl hrs
        exact ⟨(B, d, hs), trivial, ⟨hhl, hrs⟩, H⟩
    · clear H
      rintro ⟨B, d, hs⟩ u w4 ⟨⟨hhl, hrs⟩, H⟩
      replace H : Hp _ _ _ _ _ := H
      refine H.loadAll 0 rfl agg91 size91 ?_
      refine H.storeAll 2 rfl size91 rfl (fun v hv => mc_one v hv) ?_ 
      clear H 
      intro w5 H
      refine H.loadAll 2 rfl agg91 size91 ?_
      refine ⟨rfl, ?_⟩
      refine ⟨.slice B hs.length d, rfl, H.keeps, ?_⟩
      refine ⟨fun g => S g ∨ (w.heap.size ≤ g ∧ g < w5.heap.size), ⟨B, d, hs, by rw [hhl], ?_, fun i u ks hu hks => ?_⟩, ?_⟩
      · have hown := H.get 1 rfl
        rw [← hhl]
        exact sl.mono (own_sl hown) fun g hg => .inr ⟨(H.new _ (.tail _ (.head _)) g hg).resolve_right id, H.lt _ (.tail _ (.head _)) g hg⟩
      · obtain ⟨B', c', hv', hs'⟩ := hrs i u ks hu hks
        exact ⟨B', c', hv', sl.mono ((sl _ _ _ _ _).stable _ _ (fun g hg => H.keeps.old g (hS g hg) id) hs') fun g hg => .inl hg⟩
      · rintro g (hg | ⟨h1, h2⟩)
        · exact ⟨Nat.lt_of_lt_of_le (hS g hg) H.keeps.size, .inr hg⟩
        · exact ⟨h2, .inl h1⟩
end Go.Proofs.Ytjebpngdinbckaa
end

section
/- Decision diagrams: level, halves, node. -/
namespace Go.Proofs.Ytjebpngdinbckaa
open Go.Dk
attribute [local irreducible] IntKind.wrap

theorem agg59 : aggT Try.prog 59 = some false := by kernel_rfl
theorem fa213_0 (g : Nat) (w : World) : (Instr.fieldAt 213 (.pointer (some ⟨g, 0, none⟩)) 0).run Try.prog w = .ok (.pointer (some ⟨g, 0, none⟩)) w := by kernel_rfl
theorem fa213_1 (g : Nat) (w : World) : (Instr.fieldAt 213 (.pointer (some ⟨g, 0, none⟩)) 1).run Try.prog w = .ok (.pointer (some ⟨g, 1, none⟩)) w := by kernel_rfl
/-- A diagram's head. -/
def bdC (B : Option Addr) (n c ga : Nat) : Array Value := #[.slice B n c, .pointer (some ⟨ga, 0, none⟩)]
def lookV (A : Ar) (id : Int) : Value := match ndA A id with
  | some d => .tuple #[.int .i64 d.l, .int .i64 d.lo, .int .i64 d.hi, .bool true]
  | none => .tuple #[.int .i64 0, .int .i64 0, .int .i64 0, .bool false]
theorem there_nd (A : Ar) (id : Int) : thereA A id = (ndA A id).isSome := by
  unfold thereA ndA
  by_cases h : 2 ≤ id
  · rw [if_pos h, decide_eq_true h, Bool.true_and]
  · rw [if_neg h, decide_eq_false h]; rfl
theorem c72 {g r : Nat} {sv : Value} {room : Int} {A : Ar} (id : Int) (hid : id < 9223372036854775808) (w : World) (h : (arR g r sv room A).ok w) :
    Fun Try.prog 72 [.pointer (some ⟨g, 0, none⟩), .int .i64 id] w fun v w' => v = lookV A id ∧ Same w w' := by
  unfold lookV
  cases hd : ndA A id with
  | none => exact c72_b id hid (by rw [there_nd, hd]; rfl) w h
  | some d =>
    obtain ⟨i, rfl, hs⟩ := nd_place hd
    exact c72_a i (by omega) d hs w h
theorem lvlB_none {n : Nat} {A : Ar} {id : Int} (h : ndA A id = none) (h0 : id ≠ 0) (h1 : id ≠ 1) : lvlB n A id = -1 := by
  unfold lvlB
  rw [if_neg (by omega)]
  unfold ndA at h
  unfold lvlA
  rw [if_neg (by omega)]
  split
  · rename_i h2
    rw [if_pos h2] at h
    rw [h]
  · rfl
theorem startB {g ga r n c : Nat} {B : Option Addr} {sv : Value} {room : Int} {A : Ar} {w : World} (hb : (blk g 213 (bdC B n c ga)).ok w) (h : (arR ga r sv room A).ok w) :
    Hp w (fun _ => False) w [] [blk g 213 (bdC B n c ga), arR ga r sv room A] :=
  Hp.start w _ _ (fun r hr => by
    rcases List.mem_cons.1 hr with rfl | hr
    · exact hb
    · rw [List.mem_singleton] at hr; subst hr; exact h) (fun r hr => by
    rcases List.mem_cons.1 hr with rfl | hr
    · rintro x rfl; exact blk_lt hb
    · rw [List.mem_singleton] at hr; subst hr; exact arR_lt h)
theorem ent213 : enters Try.prog 213 = true := by kernel_rfl
theorem c213 {g ga r n c : Nat} {B : Option Addr} {sv : Value} {room : Int} {A : Ar} (id : Int) (hid : id < 9223372036854775808) (w : World) (hb : (blk g 213 (bdC B n c ga)).ok w) (h : (arR ga r sv room A).ok w) :
    Fun Try.prog 213 [.pointer (some ⟨g, 0, none⟩), .int .i64 id] w fun v w' => v = .int .i64 (lvlB n A id) ∧ Same w w' := by
  refine fun_of_W (N := 33) Try.func213 ent213 rfl rfl rfl (by simp) ?_
  have H := startB hb h
  refine cut_rule (γ := Unit) _ rfl (fun _ => []) (fun _ w' => Hp w (fun _ => False) w' [] [blk g 213 (bdC B n c ga), arR ga r sv room A]) ⟨(), trivial, H⟩ ?_
  clear H
  rintro ⟨⟩ u w0 H
  replace H : Hp _ _ _ _ _ := H
  refine cut_rule (γ := Unit) _ rfl (fun _ => []) (fun _ w' => (id ≠ 0 ∧ id ≠ 1) ∧ Hp w (fun _ => False) w' [] [blk g 213 (bdC B n c ga), arR ga r sv room A]) ?_ ?_
  · refine cond_beq (fun h1 => ?_) (fun h1 => ?_)
    · refine cond_yes (beq_iff_eq.2 (by assumption)) ?_
      refine cond_yes (beq_iff_eq.2 (by assumption)) ?_
      refine cond_yes rfl ?_
      refine fieldAddr_by (fa213_0 _) ?_
      refine ld_blk (H.ro 0 rfl) agg32 rfl ?_
      refine len_sl Try.underlying32 ?_
      exact ⟨by rw [lvlB_end (.inl (by assumption))]; rfl, H.keeps⟩
    · refine cond_no (beq_eq_false_iff_ne.2 (by assumption)) ?_
      refine cond_no (beq_eq_false_iff_ne.2 (by assumption)) ?_
      refine cond_beq (fun h11 => ?_) (fun h11 => ?_)
      · refine fieldAddr_by (fa213_0 _) ?_
        refine ld_blk (H.ro 0 rfl) agg32 rfl ?_
        refine len_sl Try.underlying32 ?_
        exact ⟨by rw [lvlB_end (.inr (by assumption))]; rfl, H.keeps⟩
      · exact ⟨(), trivial, ⟨by assumption, by assumption⟩, H⟩
  clear H
  rintro ⟨⟩ u w1 ⟨⟨h0, h1⟩, H⟩
  replace H : Hp _ _ _ _ _ := H
  have hlk : ∀ d, ndA A id = some d → lookV A id = .tuple #[.int .i64 d.l, .int .i64 d.lo, .int .i64 d.hi, .bool true] := fun d hd => by unfold lookV; rw [hd]
  have hln : ndA A id = none → lookV A id = .tuple #[.int .i64 0, .int .i64 0, .int .i64 0, .bool false] := fun hd => by unfold lookV; rw [hd]
  have hc := fun w1 h => c72 (g := ga) (r := r) (sv := sv) (room := room) (A := A) id hid w1 h
  cases hd : ndA A id with
  | none =>
    rw [hln hd] at hc
    rw [lvlB_none hd h0 h1]
    refine fieldAddr_by (fa213_1 _) ?_
    refine ld_blk (H.ro 0 rfl) agg59 rfl ?_
    refine call_fn (hc _ (H.ro 1 rfl)) ?_ 
    rintro _ w4_ ⟨rfl, hk4_⟩ 
    replace H := H.same hk4_ 
    clear hk4_
    refine cond_no rfl ?_
    exact ⟨rfl, H.keeps⟩
  | some d =>
    rw [hlk d hd] at hc
    rw [lvlB_nd hd]
    refine fieldAddr_by (fa213_1 _) ?_
    refine ld_blk (H.ro 0 rfl) agg59 rfl ?_
    refine call_fn (hc _ (H.ro 1 rfl)) ?_ 
    rintro _ w4_ ⟨rfl, hk4_⟩ 
    replace H := H.same hk4_ 
    clear hk4_
    refine cond_yes rfl ?_
    exact ⟨rfl, H.keeps⟩
theorem ent214 : enters Try.prog 214 = true := by kernel_rfl
theorem c214 {g ga r n c : Nat} {B : Option Addr} {sv : Value} {room : Int} {A : Ar} (id : Int) (level : Nat) (hid : id < 9223372036854775808) (w : World) (hb : (blk g 213 (bdC B n c ga)).ok w) (h : (arR ga r sv room A).ok w) :
    Fun Try.prog 214 [.pointer (some ⟨g, 0, none⟩), .int .i64 id, .int .i64 (level : Int)] w fun v w' => v = .tuple #[.int .i64 (halfI' A id level false), .int .i64 (halfI' A id level true)] ∧ Same w w' := by
  refine fun_of_W (N := 33) Try.func214 ent214 rfl rfl rfl (by simp) ?_
  have H := startB hb h
  refine cut_rule (γ := Unit) _ rfl (fun _ => []) (fun _ w' => Hp w (fun _ => False) w' [] [blk g 213 (bdC B n c ga), arR ga r sv room A]) ⟨(), trivial, H⟩ ?_
  clear H
  rintro ⟨⟩ u w0 H
  replace H : Hp _ _ _ _ _ := H
  have hlk : ∀ d, ndA A id = some d → lookV A id = .tuple #[.int .i64 d.l, .int .i64 d.lo, .int .i64 d.hi, .bool true] := fun d hd => by unfold lookV; rw [hd]
  have hln : ndA A id = none → lookV A id = .tuple #[.int .i64 0, .int .i64 0, .int .i64 0, .bool false] := fun hd => by unfold lookV; rw [hd]
  have hc := fun w1 h => c72 (g := ga) (r := r) (sv := sv) (room := room) (A := A) id hid w1 h
  unfold halfI'
  cases hd : ndA A id with
  | none =>
    rw [hln hd] at hc
    simp only
    refine fieldAddr_by (fa213_1 _) ?_
    refine ld_blk (H.ro 0 rfl) agg59 rfl ?_
    refine call_fn (hc _ (H.ro 1 rfl)) ?_ 
    rintro _ w3_ ⟨rfl, hk3_⟩ 
    replace H := H.same hk3_ 
    clear hk3_
    iterate 5 refine cond_no rfl ?_
    exact ⟨rfl, H.keeps⟩
  | some d =>
    rw [hlk d hd] at hc
    simp only
    by_cases hl : d.l = level
    · rw [if_pos hl, if_pos hl]
      refine fieldAddr_by (fa213_1 _) ?_
      refine ld_blk (H.ro 0 rfl) agg59 rfl ?_
      refine call_fn (hc _ (H.ro 1 rfl)) ?_ 
      rintro _ w3_ ⟨rfl, hk3_⟩ 
      replace H := H.same hk3_ 
      clear hk3_
      iterate 4 refine cond_yes rfl ?_
      refine cond_yes (beq_iff_eq.2 (by omega)) ?_
      exact ⟨rfl, H.keeps⟩
    · rw [if_neg hl, if_neg hl]
      refine fieldAddr_by (fa213_1 _) ?_
      refine ld_blk (H.ro 0 rfl) agg59 rfl ?_
      refine call_fn (hc _ (H.ro 1 rfl)) ?_ 
      rintro _ w3_ ⟨rfl, hk3_⟩ 
      replace H := H.same hk3_ 
      clear hk3_
      iterate 4 refine cond_yes rfl ?_
      refine cond_no (beq_eq_false_iff_ne.2 (by omega)) ?_
      exact ⟨rfl, H.keeps⟩
theorem ent212 : enters Try.prog 212 = true := by kernel_rfl
theorem c212 {g ga r n c : Nat} {B : Option Addr} {sv : Value} {room : Int} {A : Ar} (k : Nat) (lo hi : Int) (hk : k < 100) (hlo : lo < 9223372036854775808) (hhi : hi < 9223372036854775808) (hok : ArOk room A) (w : World) (hb : (blk g 213 (bdC B n c ga)).ok w) (h : (arR ga r sv room A).ok w)
    (hd : ∀ x, (blk g 213 (bdC B n c ga)).foot x → ¬ (arR ga r sv room A).foot x) :
    Fun Try.prog 212 [.pointer (some ⟨g, 0, none⟩), .int .i64 (k : Int), .int .i64 lo, .int .i64 hi] w fun v w' =>
      ∃ sv', v = .tuple #[.int .i64 (nodeA room A k lo hi).2.1, .int .i64 (nodeA room A k lo hi).2.2] ∧ Turn w w' (arR ga r sv room A) (arR ga r sv' room (nodeA room A k lo hi).1) := by
  refine fun_of_W (N := 24) Try.func212 ent212 rfl rfl rfl (by simp) ?_
  have H := Hp.own1M (M := [blk g 213 (bdC B n c ga)]) h (arR_lt h) (fun s hs => by rw [List.mem_singleton] at hs; subst hs; exact hb) (fun s hs => by rw [List.mem_singleton] at hs; subst hs; rintro x rfl; exact blk_lt hb) (fun s hs => by rw [List.mem_singleton] at hs; subst hs; exact hd)
  refine cut_rule (γ := Unit) _ rfl (fun _ => []) (fun _ w' => Hp w (arR ga r sv room A).foot w' [arR ga r sv room A] [blk g 213 (bdC B n c ga)]) ⟨(), trivial, H⟩ ?_
  clear H
  rintro ⟨⟩ u w0 H
  replace H : Hp _ _ _ _ _ := H
  unfold nodeA
  refine cond_beq (fun he => ?_) (fun he => ?_)
  · rw [if_pos he]
    exact ⟨sv, rfl, H.outTurn⟩
  · rw [if_neg he]
    refine fieldAddr_by (fa213_1 _) ?_
    refine ld_blk (H.ro 0 rfl) agg59 rfl ?_
    refine call_fn (c68 (k : Int) lo hi (by omega) hlo hhi hok _ (H.get 0 rfl)) ?_
    rintro _ w1 ⟨sv', rfl, ht⟩
    replace H := H.turnBy 0 rfl ht
    exact ⟨sv', rfl, H.outTurn⟩
end Go.Proofs.Ytjebpngdinbckaa
end

section
/- Decision diagrams: build. -/
namespace Go.Proofs.Ytjebpngdinbckaa
open Go.Dk
attribute [local irreducible] IntKind.wrap

def intsN (o : List Nat) : List Value := o.map fun n : Nat => .int .i64 (n : Int)
/-- What is read of a diagram: its head and its order. -/
def bdM (g ga co : Nat) (B : Option Addr) (o : List Nat) : List Res := [blk g 213 (bdC B o.length co ga), own 3 1 (.slice B o.length co) o.length (intsN o)]
/-- A diagram at a call's begin. -/
structure BdAt (w : World) (g ga r co : Nat) (B : Option Addr) (o : List Nat) (sv0 : Value) (room : Int) (A : Ar) : Prop where
  head : ∀ s ∈ bdM g ga co B o, s.ok w
  lt : ∀ s ∈ bdM g ga co B o, ∀ x, s.foot x → x < w.heap.size
  ar : (arR ga r sv0 room A).ok w
  dis : ∀ s ∈ bdM g ga co B o, ∀ x, s.foot x → ¬ (arR ga r sv0 room A).foot x
theorem BdAt.start {w : World} {g ga r co : Nat} {B : Option Addr} {o : List Nat} {sv0 : Value} {room : Int} {A : Ar} (h : BdAt w g ga r co B o sv0 room A) : Hp w (arR ga r sv0 room A).foot w [arR ga r sv0 room A] (bdM g ga co B o) :=
  Hp.own1M h.ar (arR_lt h.ar) h.head h.lt h.dis
theorem _root_.Go.Dk.Hp.bdAt {w0 w : World} {F : Nat → Prop} {L M : List Res} {g ga r co : Nat} {B : Option Addr} {o : List Nat} {sv0 : Value} {room : Int} {A : Ar} (H : Hp w0 F w L M) (n : Nat) (hn : L[n]? = some (arR ga r sv0 room A)) (hM : ∀ s ∈ bdM g ga co B o, s ∈ M) : BdAt w g ga r co B o sv0 room A :=
  ⟨fun s hs => H.rok s (hM s hs), fun s hs => H.rlt s (hM s hs), H.get n hn, fun s hs x hx hx' => H.rdis s (hM s hs) _ (List.mem_of_getElem? hn) x hx hx'⟩
theorem id_lt {room : Int} {A : Ar} (hok : ArOk room A) {id : Int} (h : 0 ≤ lvlA A id) : id < 30000 := by
  rcases lvlA_node h with rfl | rfl | ⟨i, n, rfl, hs, _⟩
  · decide
  · decide
  · have h1 := slot_lt hs
    have h2 := hok.len
    have h3 := hok.room
    omega
theorem ok_node {room : Int} {A : Ar} (hok : ArOk room A) (k : Nat) (lo hi : Int) : ArOk room (nodeA room A k lo hi).1 := by
  unfold nodeA
  split
  · exact hok
  · exact ok_mk hok _ _ _
theorem cond_beq' {a b : Nat} {p q : Prop} (h1 : a = b → p) (h2 : a ≠ b → q) : condB (a == b) p q :=
  cond_split (fun h => h1 (by simpa using h)) (fun h => h2 (by simpa using h))
/-- What build is to answer at a level. -/
def BuildC (o : List Nat) (s g ga r co : Nat) (B : Option Addr) (room : Int) (level : Nat) : Prop := ∀ (c : Asg) (A : Ar) (sv0 : Value) (w : World), BInv o.length A → ArOk room A → BdAt w g ga r co B o sv0 room A →
  Fun Try.prog 183 [.pointer (some ⟨g, 0, none⟩), sv s, sv (pre o level c), .int .i64 (level : Int)] w fun v w' => ∃ A' sv' id e, v = .tuple #[.int .i64 id, .int .i64 e] ∧ Made o.length room A A' (FnL o s level c) id e ∧ ArOk room A' ∧ Turn w w' (arR ga r sv0 room A) (arR ga r sv' room A')
theorem ent183 : enters Try.prog 183 = true := by kernel_rfl
theorem c183_step {o : List Nat} (ho : OrdO o) (hn : o.length ≤ 8) {s : Nat} (hs : s < 2 ^ 256) {g ga r co : Nat} {B : Option Addr} {room : Int} {level : Nat} (hl : level ≤ o.length) (IH : level < o.length → BuildC o s g ga r co B room (level + 1)) : BuildC o s g ga r co B room level := by
  intro c A sv0 w hA hok hbd
  refine fun_of_W (N := 65) Try.func183 ent183 rfl rfl rfl (by simp) ?_
  have H := hbd.start
  have hp := pre_lt o level c
  refine cut_rule (γ := Nat × Nat) _ rfl (fun (g5, g6) => [(5, .pointer (some ⟨g5, 0, none⟩)), (6, .pointer (some ⟨g6, 0, none⟩))]) (fun (g5, g6) w' => Hp w (arR ga r sv0 room A).foot w' [blk g6 24 (sc (pre o level c)), blk g5 24 (sc s), arR ga r sv0 room A] (bdM g ga co B o)) ?_ ?_
  · refine H.box 24 (sv s) (cs := sc s) rfl ?_
    clear H
    intro g5 w1 H
    refine H.box 24 (sv (pre o level c)) (cs := sc (pre o level c)) rfl ?_
    clear H
    intro g6 w2 H
    exact ⟨(g5, g6), ⟨rfl, rfl, trivial⟩, H⟩
  clear H
  rintro ⟨g5, g6⟩ u w1 H
  replace H : Hp _ _ _ _ _ := H
  have hand : s &&& pre o level c < 2 ^ 256 := Nat.lt_of_le_of_lt Nat.and_le_left hs
  refine cut_rule (γ := Unit) _ rfl (fun _ => []) (fun _ w' => level < o.length ∧ Hp w (arR ga r sv0 room A).foot w' [blk g6 24 (sc (pre o level c)), blk g5 24 (sc s), arR ga r sv0 room A] (bdM g ga co B o)) ?_ ?_
  · refine H.loadAll 1 rfl agg24 size24 ?_
    refine H.loadAll 0 rfl agg24 size24 ?_
    refine call_fn (c51 s (pre o level c) _) ?_
    rintro _ w2 ⟨rfl, hk⟩
    replace H := H.same hk
    clear hk
    refine build24 ?_
    refine bin_eql24 hand (by decide) ?_
    refine cond_beq' (fun h0 => ?_) (fun h0 => ?_)
    · exact ⟨A, sv0, 0, 0, rfl, Made.refl hA (build_zero ho hl h0 A), hok, (H.front 2 rfl).outTurn⟩
    · refine H.loadAll 0 rfl agg24 size24 ?_
      refine bin_eql24 hand hp ?_
      refine cond_beq' (fun h1 => ?_) (fun h1 => ?_)
      · exact ⟨A, sv0, 1, 0, rfl, Made.refl hA (build_all ho hl h1 A), hok, (H.front 2 rfl).outTurn⟩
      · exact ⟨(), trivial, build_lt ho hl h0 h1, H⟩
  clear H hand
  rintro ⟨⟩ u w2 ⟨hlt, H⟩
  replace H : Hp _ _ _ _ _ := H
  have hF := FnL_indep o s level c
  have hcol : o.getD level 0 < o.length := ho.get_lt hlt
  have hget : (intsN o)[level]? = some (.int .i64 ((o.getD level 0 : Nat) : Int)) := by
    unfold intsN
    rw [List.getElem?_map, List.getD_eq_getElem?_getD, List.getElem?_eq_getElem hlt]; rfl
  refine cut_rule (γ := Unit) _ rfl (fun _ => [(10, .int .i64 ((o.getD level 0 : Nat) : Int))]) (fun _ w' => Hp w (arR ga r sv0 room A).foot w' [blk g6 24 (sc (pre o level c)), blk g5 24 (sc s), arR ga r sv0 room A] (bdM g ga co B o)) ?_ ?_
  · refine fieldAddr_by (fa213_0 _) ?_
    refine ld_blk (H.ro 0 rfl) agg32 rfl ?_
    obtain ⟨gB, rfl⟩ := own_base (H.ro 1 rfl) (by omega)
    refine idxAddr_sl Try.underlying32 (s := 1) size3 level rfl hlt (o' := level) (by omega) ?_
    refine load_cell agg3 ((own_cell (H.ro 1 rfl) level (by omega)).trans hget) ?_
    exact ⟨(), ⟨rfl, trivial⟩, H⟩
  clear H
  rintro ⟨⟩ u w3 H
  replace H : Hp _ _ _ _ _ := H
  refine cut_rule (γ := Int × Int × Ar × Value) _ rfl (fun (id, e, _) => [(11, .int .i64 id), (12, .int .i64 e)]) (fun (id, e, A1, sv1) w' => (Made o.length room A A1 (FnL o s (level + 1) (upA c level false)) id e ∧ ArOk room A1) ∧ Hp w (arR ga r sv0 room A).foot w' [blk g6 24 (sc (pre o level c)), blk g5 24 (sc s), arR ga r sv1 room A1] (bdM g ga co B o)) ?_ ?_
  · refine H.drawC [blk g6 24 (sc (pre o level c)), blk g5 24 (sc s)] (fun u H => (H.front 2 rfl).forget) fol (by kernel_rfl) ?_
    clear H
    intro w4 H
    refine quiet _ (fun w H => H.loadAll 1 rfl agg24 size24 ⟨rfl, rfl⟩) ?_
    refine quiet _ (fun w H => H.loadAll 0 rfl agg24 size24 ⟨rfl, rfl⟩) ?_
    refine call_fn (c49_yes _ (o.getD level 0) false (by omega) _) ?_
    rintro _ w5 ⟨rfl, hk⟩
    replace H := H.same hk
    clear hk
    refine ⟨.inl (H.front 2 rfl).forget, ?_⟩
    rw [half_pre ho]
    have hwl : IntKind.i64.wrap ((level : Int) + 1) = ((level + 1 : Nat) : Int) := by rw [wrap_i64_in (by omega) (by omega)]; rfl
    have hc := IH hlt (upA c level false) A sv0 w5 hA hok (H.bdAt 2 rfl fun s hs => hs)
    rw [← hwl] at hc
    refine call_fn hc ?_
    rintro _ w6 ⟨A1, sv1, id, e, rfl, hmade, hok1, ht⟩
    replace H := H.turnBy 2 rfl ht
    refine ⟨.inl (H.front 2 rfl).forget, ?_⟩
    exact ⟨(id, e, A1, sv1), ⟨rfl, rfl, trivial⟩, ⟨hmade, hok1⟩, H⟩
  clear H
  rintro ⟨lo, e, A1, sv1⟩ u w4 ⟨⟨hm1, hok1⟩, H⟩
  replace H : Hp _ _ _ _ _ := H
  have hm1' : Made o.length room A A1 (fun b => FnL o s level c (upA b level false)) lo e := by rw [FnL_up]; exact hm1
  clear hm1
  refine cut_rule (γ := Unit) _ rfl (fun _ => []) (fun _ w' => e = 0 ∧ Hp w (arR ga r sv0 room A).foot w' [blk g6 24 (sc (pre o level c)), blk g5 24 (sc s), arR ga r sv1 room A1] (bdM g ga co B o)) ?_ ?_
  · refine cond_bne (fun he => ?_) (fun he => ?_)
    · exact ⟨A1, sv1, 0, e, rfl, made_lo hF hm1' he, hok1, (H.front 2 rfl).outTurn⟩
    · exact ⟨(), trivial, he, H⟩
  clear H
  rintro ⟨⟩ u w5 ⟨rfl, H⟩
  replace H : Hp _ _ _ _ _ := H
  refine cut_rule (γ := Int × Int × Ar × Value) _ rfl (fun (id, e, _) => [(13, .int .i64 id), (12, .int .i64 e)]) (fun (id, e, A2, sv2) w' => (Made o.length room A1 A2 (FnL o s (level + 1) (upA c level true)) id e ∧ ArOk room A2) ∧ Hp w (arR ga r sv0 room A).foot w' [blk g6 24 (sc (pre o level c)), blk g5 24 (sc s), arR ga r sv2 room A2] (bdM g ga co B o)) ?_ ?_
  · refine H.drawC [blk g6 24 (sc (pre o level c)), blk g5 24 (sc s)] (fun u H => (H.front 2 rfl).forget) fol (by kernel_rfl) ?_
    clear H
    intro w4 H
    refine quiet _ (fun w H => H.loadAll 1 rfl agg24 size24 ⟨rfl, rfl⟩) ?_
    refine quiet _ (fun w H => H.loadAll 0 rfl agg24 size24 ⟨rfl, rfl⟩) ?_
    refine call_fn (c49_yes _ (o.getD level 0) true (by omega) _) ?_
    rintro _ w5 ⟨rfl, hk⟩
    replace H := H.same hk
    clear hk
    refine ⟨.inl (H.front 2 rfl).forget, ?_⟩
    rw [half_pre ho]
    have hwl : IntKind.i64.wrap ((level : Int) + 1) = ((level + 1 : Nat) : Int) := by rw [wrap_i64_in (by omega) (by omega)]; rfl
    have hc := IH hlt (upA c level true) A1 sv1 w5 hm1'.inv hok1 (H.bdAt 2 rfl fun s hs => hs)
    rw [← hwl] at hc
    refine call_fn hc ?_
    rintro _ w6 ⟨A2, sv2, id, e, rfl, hmade, hok2, ht⟩
    replace H := H.turnBy 2 rfl ht
    refine ⟨.inl (H.front 2 rfl).forget, ?_⟩
    exact ⟨(id, e, A2, sv2), ⟨rfl, rfl, trivial⟩, ⟨hmade, hok2⟩, H⟩
  clear H
  rintro ⟨hi, e, A2, sv2⟩ u w6 ⟨⟨hm2, hok2⟩, H⟩
  replace H : Hp _ _ _ _ _ := H
  have hm2' : Made o.length room A1 A2 (fun b => FnL o s level c (upA b level true)) hi e := by rw [FnL_up]; exact hm2
  clear hm2
  refine cut_rule (γ := Unit) _ rfl (fun _ => []) (fun _ w' => e = 0 ∧ Hp w (arR ga r sv0 room A).foot w' [blk g6 24 (sc (pre o level c)), blk g5 24 (sc s), arR ga r sv2 room A2] (bdM g ga co B o)) ?_ ?_
  · refine cond_bne (fun he => ?_) (fun he => ?_)
    · exact ⟨A2, sv2, 0, e, rfl, made_hi hF hm1' hm2' he, hok2, (H.front 2 rfl).outTurn⟩
    · exact ⟨(), trivial, he, H⟩
  clear H
  rintro ⟨⟩ u w7 ⟨rfl, H⟩
  replace H : Hp _ _ _ _ _ := H
  have hlo := id_lt hok2 ((hm1'.ok.ext hm1'.inv.inv hm2'.inv.inv hm2'.ext).there)
  have hhi := id_lt hok2 hm2'.ok.there
  have hbd2 := H.bdAt 2 rfl fun s hs => hs
  refine call_fn (c212 (B := B) (n := o.length) (c := co) level lo hi (by omega) (by omega) (by omega) hok2 _ (hbd2.head _ (.head _)) hbd2.ar (hbd2.dis _ (.head _))) ?_
  rintro _ w8 ⟨sv3, rfl, ht⟩
  replace H := H.turnBy 2 rfl ht
  exact ⟨_, sv3, _, _, rfl, made_both hA hlt (by omega) hF hm1' hm2', ok_node hok2 level lo hi, (H.front 2 rfl).outTurn⟩
theorem c183 {o : List Nat} (ho : OrdO o) (hn : o.length ≤ 8) {s : Nat} (hs : s < 2 ^ 256) {g ga r co : Nat} {B : Option Addr} {room : Int} : ∀ (k level : Nat), o.length - level ≤ k → level ≤ o.length → BuildC o s g ga r co B room level
  | 0, level, hk, hl => c183_step ho hn hs hl fun h => by omega
  | k + 1, level, hk, hl => c183_step ho hn hs hl fun h => c183 ho hn hs k (level + 1) (by omega) (by omega)
end Go.Proofs.Ytjebpngdinbckaa
end

section
/- Decision diagrams: Of, there. -/
namespace Go.Proofs.Ytjebpngdinbckaa
open Go.Dk
attribute [local irreducible] IntKind.wrap

theorem bin_eql123 {xo yo : Operand} {w : World} {kk : Value → World → Prop} {g : Nat} (h : kk (.bool false) w) : binK Try.prog .eql 123 xo yo (.pointer (some ⟨g, 0, none⟩)) (.pointer none) w kk :=
  bin_by (fun w => by kernel_rfl) h
theorem ent108 : enters Try.prog 108 = true := by kernel_rfl
theorem c108 {o : List Nat} (ho : OrdO o) (hn : o.length ≤ 8) {s : Nat} (hs : s < 2 ^ 256) {g ga r co : Nat} {B : Option Addr} {room : Int} {A : Ar} {sv0 : Value} (w : World) (hA : BInv o.length A) (hok : ArOk room A) (hbd : BdAt w g ga r co B o sv0 room A) :
    Fun Try.prog 108 [.pointer (some ⟨g, 0, none⟩), sv s] w fun v w' => ∃ A' sv' id e, v = .tuple #[.int .i64 id, .int .i64 e] ∧
      ((lessN s (allN o.length) ≠ 0 ∧ A' = A ∧ id = 0 ∧ e = 1) ∨ (lessN s (allN o.length) = 0 ∧ Made o.length room A A' (FnS o s) id e)) ∧ ArOk room A' ∧ Turn w w' (arR ga r sv0 room A) (arR ga r sv' room A') := by
  refine fun_of_W (N := 29) Try.func108 ent108 rfl rfl rfl (by simp) ?_
  have H := hbd.start
  refine cut_rule (γ := Nat) _ rfl (fun g3 => [(3, .pointer (some ⟨g3, 0, none⟩))]) (fun g3 w' => Hp w (arR ga r sv0 room A).foot w' [blk g3 24 (sc s), arR ga r sv0 room A] (bdM g ga co B o)) ?_ ?_
  · refine H.box 24 (sv s) (cs := sc s) rfl ?_
    clear H
    intro g3 w1 H
    exact ⟨g3, ⟨rfl, trivial⟩, H⟩
  clear H
  rintro g3 u w1 H
  replace H : Hp _ _ _ _ _ := H
  refine cut_rule (γ := Unit) _ rfl (fun _ => []) (fun _ w' => Hp w (arR ga r sv0 room A).foot w' [blk g3 24 (sc s), arR ga r sv0 room A] (bdM g ga co B o)) ?_ ?_
  · refine bin_eql123 ?_
    refine cond_no rfl ?_
    exact ⟨(), trivial, H⟩
  clear H
  rintro ⟨⟩ u w2 H
  replace H : Hp _ _ _ _ _ := H
  refine cut_rule (γ := Nat) _ rfl (fun g6 => [(6, .pointer (some ⟨g6, 0, none⟩))]) (fun g6 w' => Hp w (arR ga r sv0 room A).foot w' [blk g6 24 (sc (allN o.length)), blk g3 24 (sc s), arR ga r sv0 room A] (bdM g ga co B o)) ?_ ?_
  · refine fieldAddr_by (fa213_0 _) ?_
    refine ld_blk (H.ro 0 rfl) agg32 rfl ?_
    refine len_sl Try.underlying32 ?_
    refine call_fn (c37_yes o.length hn _) ?_
    rintro _ w3 ⟨rfl, hk⟩
    replace H := H.same hk
    clear hk
    refine H.alloc 24 (cs := sc 0) zero24 sc_zero ?_
    clear H
    intro g6 w4 H
    refine H.storeAll 0 rfl size24 rfl (sc_one _) ?_
    clear H
    intro w5 H
    exact ⟨g6, ⟨rfl, trivial⟩, H⟩
  clear H
  rintro g6 u w3 H
  replace H : Hp _ _ _ _ _ := H
  refine cut_rule (γ := Unit) _ rfl (fun _ => []) (fun _ w' => lessN s (allN o.length) = 0 ∧ Hp w (arR ga r sv0 room A).foot w' [blk g6 24 (sc (allN o.length)), blk g3 24 (sc s), arR ga r sv0 room A] (bdM g ga co B o)) ?_ ?_
  · refine H.loadAll 1 rfl agg24 size24 ?_
    refine H.loadAll 0 rfl agg24 size24 ?_
    refine call_fn (c53 s (allN o.length) hs _) ?_
    rintro _ w4 ⟨rfl, hk⟩
    replace H := H.same hk
    clear hk
    refine cond_split (fun hb => ?_) (fun hb => ?_)
    · exact ⟨A, sv0, 0, 1, rfl, .inl ⟨by simpa using hb, rfl, rfl, rfl⟩, hok, (H.front 2 rfl).outTurn⟩
    · exact ⟨(), trivial, by simpa using hb, H⟩
  clear H
  rintro ⟨⟩ u w4 ⟨hz, H⟩
  replace H : Hp _ _ _ _ _ := H
  refine H.loadAll 1 rfl agg24 size24 ?_
  refine H.loadAll 0 rfl agg24 size24 ?_
  have hc := c183 ho hn hs (B := B) (room := room) (g := g) (ga := ga) (r := r) (co := co) o.length 0 (by omega) (by omega) (fun _ => false) A sv0 w4 hA hok (H.bdAt 2 rfl fun s hs => hs)
  rw [pre_zero, FnL_zero] at hc
  refine call_fn hc ?_
  rintro _ w5 ⟨A', sv', id, e, rfl, hm, hok', ht⟩
  replace H := H.turnBy 2 rfl ht
  exact ⟨A', sv', id, e, rfl, .inr ⟨hz, hm⟩, hok', (H.front 2 rfl).outTurn⟩
theorem ent184 : enters Try.prog 184 = true := by kernel_rfl
theorem c184 {g ga r n c : Nat} {B : Option Addr} {sv0 : Value} {room : Int} {A : Ar} (ids : List Int) (Bi : Option Addr) (ci : Nat) (hil : ids.length ≤ 1000000000) (hid : ∀ id ∈ ids, id < 9223372036854775808) (w : World) (hb : (blk g 213 (bdC B n c ga)).ok w) (h : (arR ga r sv0 room A).ok w)
    (hs : Sl w (.slice Bi ids.length ci) 1 ids.length (intsI ids)) :
    Fun Try.prog 184 [.pointer (some ⟨g, 0, none⟩), .slice Bi ids.length ci] w fun v w' => v = .bool (ids.all fun id => decide (0 ≤ lvlA A id)) ∧ Same w w' := by
  refine fun_of_W (N := 20) Try.func184 ent184 rfl rfl rfl (by simp) ?_
  have H := startB hb h
  refine cut_rule (γ := Unit) _ rfl (fun _ => []) (fun _ w' => Hp w (fun _ => False) w' [] [blk g 213 (bdC B n c ga), arR ga r sv0 room A]) ⟨(), trivial, H⟩ ?_
  clear H
  rintro ⟨⟩ u w0 H
  replace H : Hp _ _ _ _ _ := H
  refine cut_rule (γ := Unit) _ rfl (fun _ => []) (fun _ w' => Hp w (fun _ => False) w' [] [blk g 213 (bdC B n c ga), arR ga r sv0 room A]) ?_ ?_
  · refine bin_eql123 ?_
    refine cond_no rfl ?_
    exact ⟨(), trivial, H⟩
  clear H
  rintro ⟨⟩ u w1 H
  replace H : Hp _ _ _ _ _ := H
  refine cut_rule (γ := Unit) _ rfl (fun _ => []) (fun _ w' => (∀ id ∈ ids, 0 ≤ lvlA A id) ∧ Hp w (fun _ => False) w' [] [blk g 213 (bdC B n c ga), arR ga r sv0 room A]) ?_ ?_
  · refine len_sl Try.underlying32 ?_
    refine loop_rule (γ := Nat) _ rfl (fun i => [(11, .int .i64 (i : Int))]) (fun i w' => (i ≤ ids.length ∧ ∀ id ∈ ids.take i, 0 ≤ lvlA A id) ∧ Hp w (fun _ => False) w' [] [blk g 213 (bdC B n c ga), arR ga r sv0 room A]) (fun i => ids.length - i) 0 ⟨rfl, trivial⟩ ⟨⟨Nat.zero_le _, by simp⟩, H⟩ ?_
    clear H
    rintro i u w2 ⟨⟨hi, hall⟩, H⟩
    replace H : Hp _ _ _ _ _ := H
    refine cond_dec (fun h7 => ?_) (fun h7 => ?_)
    · obtain ⟨k, hk⟩ : ∃ k, ids[i]? = some k := ⟨_, List.getElem?_eq_getElem (by omega)⟩
      obtain ⟨gi, oi, rfl⟩ := hs.A (by omega)
      have hgk : (intsI ids)[i]? = some (.int .i64 k) := by rw [intsI, List.getElem?_map, hk]; rfl
      have hkm := List.mem_of_getElem? hk
      have htk : ids.take (i + 1) = ids.take i ++ [k] := by rw [List.take_add_one, hk]; rfl
      refine cut_rule (γ := Unit) _ rfl (fun _ => []) (fun _ w' => 0 ≤ lvlA A k ∧ Hp w (fun _ => False) w' [] [blk g 213 (bdC B n c ga), arR ga r sv0 room A]) ?_ ?_
      · refine cut_rule (γ := Unit) _ rfl (fun _ => [(6, .int .i64 k)]) (fun _ w' => Hp w (fun _ => False) w' [] [blk g 213 (bdC B n c ga), arR ga r sv0 room A]) ?_ ?_
        · refine idxAddr_sl Try.underlying32 (s := 1) size3 i rfl (by omega) (o' := oi + i) (by omega) ?_
          refine H.loadSl (i := i) hs agg3 _ rfl hgk ?_
          exact ⟨(), ⟨rfl, trivial⟩, H⟩
        clear H
        rintro ⟨⟩ u w3 H
        replace H : Hp _ _ _ _ _ := H
        refine call_fn (c213 k (hid k hkm) _ (H.ro 0 rfl) (H.ro 1 rfl)) ?_
        rintro _ w4 ⟨rfl, hk4⟩
        replace H := H.same hk4
        clear hk4
        refine cond_dec (fun h9 => ?_) (fun h9 => ?_)
        · refine ⟨?_, H.keeps⟩
          have : (ids.all fun id => decide (0 ≤ lvlA A id)) = false := by
            rw [Bool.eq_false_iff]
            intro hh
            have h1 := of_decide_eq_true ((List.all_eq_true.1 hh) k hkm)
            have h2 := (lvlB_there (n := n)).2 h1
            omega
          rw [this]; rfl
        · exact ⟨(), trivial, (lvlB_there (n := n)).1 (by omega), H⟩
      · clear H
        rintro ⟨⟩ u w3 ⟨hk0, H⟩
        refine ⟨i + 1, by show ids.length - (i + 1) < ids.length - i; omega, ⟨up (by omega), trivial⟩, ⟨by show i + 1 ≤ ids.length; omega, fun id hid' => ?_⟩, H⟩
        rw [htk] at hid'
        rcases List.mem_append.1 hid' with hx | hx
        · exact hall id hx
        · rw [List.mem_singleton] at hx; subst hx; exact hk0
    · rw [List.take_of_length_le (by omega)] at hall
      exact ⟨(), trivial, hall, H⟩
  clear H
  rintro ⟨⟩ u w2 ⟨hall, H⟩
  replace H : Hp _ _ _ _ _ := H
  have : (ids.all fun id => decide (0 ≤ lvlA A id)) = true := List.all_eq_true.2 fun id hid => decide_eq_true (hall id hid)
  rw [this]
  exact ⟨rfl, H.keeps⟩
end Go.Proofs.Ytjebpngdinbckaa
end

section
/- Decision diagrams: the reference's Of; Size. -/
namespace Go.Proofs.Ytjebpngdinbckaa
open Go.Dk
attribute [local irreducible] IntKind.wrap

theorem ent109 : enters Try.prog 109 = true := by kernel_rfl
theorem c109 (s n : Nat) (hs : s < 2 ^ 256) (hn : n ≤ 8) (w : World) : Fun Try.prog 109 [sv s, .int .i64 (n : Int)] w fun v w' => v = .bool (lessN s (ofFlags (allFlags n)) == 0) ∧ Same w w' := by
  refine fun_of_W (N := 10) Try.func109 ent109 rfl rfl rfl (by simp) ?_
  have H := Hp.start0 w
  refine cut_rule (γ := Nat) _ rfl (fun g2 => [(2, .pointer (some ⟨g2, 0, none⟩))]) (fun g2 w' => Hp w (fun _ => False) w' [blk g2 24 (sc s)] []) ?_ ?_
  · refine H.box 24 (sv s) (cs := sc s) rfl ?_
    clear H
    intro g1 w1 H
    exact ⟨g1, ⟨rfl, trivial⟩, H⟩
  clear H
  rintro g2 u w1 H
  replace H : Hp _ _ _ _ _ := H
  refine H.draw fol (by kernel_rfl) ?_
  clear H
  intro w2 H
  refine quiet _ (fun w H => H.loadAll 0 rfl agg24 size24 ⟨rfl, rfl⟩) ?_
  refine call_fn (c39 n hn _) ?_
  rintro _ w3 ⟨A, c, rfl, hn3⟩
  have H2 := H.addNew hn3
  clear H
  refine ⟨.inl H2.forget, ?_⟩
  refine call_fn (c38 (allFlags n) (by simp [allFlags]) A c _ (own_Sl (H2.get 0 rfl))) ?_
  rintro _ w4 ⟨rfl, hk⟩
  replace H2 := H2.same hk
  clear hk
  refine ⟨.inl H2.forget, ?_⟩
  refine call_fn (c54 s _ hs _) ?_
  rintro _ w5 ⟨rfl, hk⟩
  replace H2 := H2.same hk
  refine ⟨.inl H2.forget, ?_⟩
  exact ⟨rfl, H2.keeps⟩
theorem c109' (s n : Nat) (hs : s < 2 ^ 256) (hn : n ≤ 8) (w : World) : Fun Try.prog 109 [sv s, .int .i64 (n : Int)] w fun v w' => v = .bool (lessN s (allN n) == 0) ∧ Same w w' := by
  have := c109 s n hs hn w
  rwa [flags_all] at this
theorem ent111 : enters Try.prog 111 = true := by kernel_rfl
theorem c111 {g ga r n c : Nat} {B : Option Addr} {sv0 : Value} {room : Int} {A : Ar} (hok : ArOk room A) (id : Int) (hid : id < 9223372036854775808) (w : World) (hb : (blk g 213 (bdC B n c ga)).ok w) (h : (arR ga r sv0 room A).ok w) :
    Fun Try.prog 111 [.pointer (some ⟨g, 0, none⟩), .int .i64 id] w fun v w' => v = .int .i64 ((reachL A id).length : Int) ∧ Same w w' := by
  refine fun_of_W (N := 14) Try.func111 ent111 rfl rfl rfl (by simp) ?_
  have H := startB hb h
  refine cut_rule (γ := Unit) _ rfl (fun _ => []) (fun _ w' => Hp w (fun _ => False) w' [] [blk g 213 (bdC B n c ga), arR ga r sv0 room A]) ⟨(), trivial, H⟩ ?_
  clear H
  rintro ⟨⟩ u w0 H
  replace H : Hp _ _ _ _ _ := H
  refine cut_rule (γ := Unit) _ rfl (fun _ => []) (fun _ w' => Hp w (fun _ => False) w' [] [blk g 213 (bdC B n c ga), arR ga r sv0 room A]) ?_ ?_
  · refine bin_eql123 ?_
    refine cond_no rfl ?_
    exact ⟨(), trivial, H⟩
  clear H
  rintro ⟨⟩ u w1 H
  replace H : Hp _ _ _ _ _ := H
  refine fieldAddr_by (fa213_1 _) ?_
  refine ld_blk (H.ro 0 rfl) agg59 rfl ?_
  refine call_fn (c74 hok id hid _ (H.ro 1 rfl)) ?_
  rintro _ w2 ⟨B2, c2, rfl, hn⟩
  replace H := H.addNew hn
  refine len_sl Try.underlying32 ?_
  exact ⟨rfl, H.keeps⟩
end Go.Proofs.Ytjebpngdinbckaa
end

section
/- Decision diagrams: Sweep. -/
namespace Go.Proofs.Ytjebpngdinbckaa
open Go.Dk
attribute [local irreducible] IntKind.wrap

theorem bin_neq123 {xo yo : Operand} {w : World} {kk : Value → World → Prop} {g : Nat} (h : kk (.bool true) w) : binK Try.prog .neq 123 xo yo (.pointer (some ⟨g, 0, none⟩)) (.pointer none) w kk :=
  bin_by (fun w => by kernel_rfl) h
theorem ent115 : enters Try.prog 115 = true := by kernel_rfl
theorem c115 {g ga r n c : Nat} {B : Option Addr} {sv0 : Value} {room : Int} {A : Ar} (hok : ArOk room A) (ks : List Int) (hks : ∀ k ∈ ks, k < 9223372036854775808) (hkl : ks.length < 4611686018427387904) {S : Nat → Prop} {B0 : Option Addr} {c0 : Nat} (w : World) (hb : (blk g 213 (bdC B n c ga)).ok w) (h : (arR ga r sv0 room A).ok w)
    (hd : ¬ (arR ga r sv0 room A).foot g) (hkeep : (sl S (.slice B0 ks.length c0) 1 ks.length (intsI ks)).ok w) (hS : ∀ x, S x → x < w.heap.size) (hdis : ∀ x, S x → ¬ (arR ga r sv0 room A).foot x) :
    Fun Try.prog 115 [.pointer (some ⟨g, 0, none⟩), .slice B0 ks.length c0] w fun v w' => v = .tuple #[] ∧ Turn w w' (arR ga r sv0 room A) (arR ga r sv0 room (sweepA A ks)) := by
  refine fun_of_W (N := 12) Try.func115 ent115 rfl rfl rfl (by simp) ?_
  have hM : ∀ s ∈ [blk g 213 (bdC B n c ga), sl S (.slice B0 ks.length c0) 1 ks.length (intsI ks)], s.ok w ∧ (∀ x, s.foot x → x < w.heap.size) ∧ ∀ x, s.foot x → ¬ (arR ga r sv0 room A).foot x := fun s hs => by
    rcases List.mem_cons.1 hs with rfl | hs
    · exact ⟨hb, by rintro x rfl; exact blk_lt hb, by rintro x rfl; exact hd⟩
    · rw [List.mem_singleton] at hs; subst hs; exact ⟨hkeep, hS, hdis⟩
  have H := Hp.own1M (M := [blk g 213 (bdC B n c ga), sl S (.slice B0 ks.length c0) 1 ks.length (intsI ks)]) h (arR_lt h) (fun s hs => (hM s hs).1) (fun s hs => (hM s hs).2.1) (fun s hs => (hM s hs).2.2)
  refine bin_neq123 ?_
  refine cond_yes rfl ?_
  refine fieldAddr_by (fa213_1 _) ?_
  refine ld_blk (H.ro 0 rfl) agg59 rfl ?_
  refine call_fn (c66 hok ks hks hkl _ (H.get 0 rfl) (H.ro 1 rfl) (H.rlt _ (.tail _ (.head _))) (fun x hx => H.rdis _ (.tail _ (.head _)) _ (.head _) x hx)) ?_
  rintro _ w2 ⟨rfl, ht⟩
  replace H := H.turnBy 0 rfl ht
  exact ⟨rfl, H.outTurn⟩
end Go.Proofs.Ytjebpngdinbckaa
end

section
/- Decision diagrams: the reference's Order. -/
namespace Go.Proofs.Ytjebpngdinbckaa
open Go.Dk
attribute [local irreducible] IntKind.wrap

def orderB (ks : List Int) : Bool := decide (ks.length ≤ 8) && (List.range ks.length).all fun i => ks.count (i : Int) == 1
theorem count_snoc {l : List Int} {i : Nat} {x : Int} (k : Int) (hx : l[i]? = some x) : (l.take (i + 1)).count k = (l.take i).count k + if x = k then 1 else 0 := by
  rw [List.take_add_one, hx, List.count_append]
  by_cases h : x = k
  · subst h; simp
  · simp [h]
theorem ent101 : enters Try.prog 101 = true := by kernel_rfl
theorem c101 (ks : List Int) (B : Option Addr) (c : Nat) (w : World) (hl : ks.length ≤ 9223372036854775807) (hs : Sl w (.slice B ks.length c) 1 ks.length (intsI ks)) :
    Fun Try.prog 101 [.slice B ks.length c] w fun v w' => v = .bool (orderB ks) ∧ Same w w' := by
  refine fun_of_W (N := 31) Try.func101 ent101 rfl rfl rfl (by simp) ?_
  have H := Hp.start0 w
  refine cut_rule (γ := Unit) _ rfl (fun _ => []) (fun _ w' => Hp w (fun _ => False) w' [] []) ⟨(), trivial, H⟩ ?_
  clear H
  rintro ⟨⟩ u w0 H
  replace H : Hp _ _ _ _ _ := H
  refine cut_rule (γ := Unit) _ rfl (fun _ => []) (fun _ w' => ks.length ≤ 8 ∧ Hp w (fun _ => False) w' [] []) ?_ ?_
  · refine len_sl Try.underlying32 ?_
    refine cond_dec (fun h8 => ?_) (fun h8 => ?_)
    · have : orderB ks = false := by unfold orderB; rw [decide_eq_false (by omega)]; rfl
      rw [this]
      exact ⟨rfl, H.keeps⟩
    · exact ⟨(), trivial, by omega, H⟩
  clear H
  rintro ⟨⟩ u w1 ⟨h8, H⟩
  replace H : Hp _ _ _ _ _ := H
  refine cut_rule (γ := Unit) _ rfl (fun _ => []) (fun _ w' => (∀ i : Nat, i < ks.length → ks.count (i : Int) = 1) ∧ Hp w (fun _ => False) w' [] []) ?_ ?_
  · refine loop_rule (γ := Nat) _ rfl (fun i => [(3, .int .i64 (i : Int))]) (fun i w' => (i ≤ ks.length ∧ ∀ i' : Nat, i' < i → ks.count (i' : Int) = 1) ∧ Hp w (fun _ => False) w' [] []) (fun i => ks.length - i) 0 ⟨rfl, trivial⟩ ⟨⟨Nat.zero_le _, fun i h => by omega⟩, H⟩ ?_
    clear H
    rintro i u w2 ⟨⟨hi, hall⟩, H⟩
    replace H : Hp _ _ _ _ _ := H
    refine len_sl Try.underlying32 ?_
    refine cond_dec (fun h7 => ?_) (fun h7 => ?_)
    · refine cut_rule (γ := Unit) _ rfl (fun _ => []) (fun _ w' => ks.count (i : Int) = 1 ∧ Hp w (fun _ => False) w' [] []) ?_ ?_
      · refine cut_rule (γ := Unit) _ rfl (fun _ => [(4, .int .i64 0)]) (fun _ w' => Hp w (fun _ => False) w' [] []) ⟨(), ⟨rfl, trivial⟩, H⟩ ?_
        clear H
        rintro ⟨⟩ u w3 H
        replace H : Hp _ _ _ _ _ := H
        refine cut_rule (γ := Unit) _ rfl (fun _ => [(4, .int .i64 ((ks.count (i : Int) : Nat) : Int))]) (fun _ w' => Hp w (fun _ => False) w' [] []) ?_ ?_
        · refine loop_rule (γ := Nat) _ rfl (fun j => [(5, .int .i64 (j : Int)), (4, .int .i64 (((ks.take j).count (i : Int) : Nat) : Int))]) (fun j w' => j ≤ ks.length ∧ Hp w (fun _ => False) w' [] []) (fun j => ks.length - j) 0 ⟨rfl, rfl, trivial⟩ ⟨Nat.zero_le _, H⟩ ?_
          clear H
          rintro j u w4 ⟨hj, H⟩
          replace H : Hp _ _ _ _ _ := H
          refine len_sl Try.underlying32 ?_
          refine cond_dec (fun h9 => ?_) (fun h9 => ?_)
          · obtain ⟨k, hk⟩ : ∃ k, ks[j]? = some k := ⟨_, List.getElem?_eq_getElem (by omega)⟩
            obtain ⟨g2, o2, rfl⟩ := hs.A (by omega)
            have hgk : (intsI ks)[j]? = some (.int .i64 k) := by rw [intsI, List.getElem?_map, hk]; rfl
            have hsn := count_snoc (i : Int) hk
            have hcl : (ks.take j).count (i : Int) ≤ 8 := by
              have h1 := List.count_le_length (a := (i : Int)) (l := ks.take j)
              rw [List.length_take] at h1
              omega
            refine cut_rule (γ := Unit) _ rfl (fun _ => [(4, .int .i64 (((ks.take (j + 1)).count (i : Int) : Nat) : Int))]) (fun _ w' => Hp w (fun _ => False) w' [] []) ?_ ?_
            · refine idxAddr_sl Try.underlying32 (s := 1) size3 j rfl (by omega) (o' := o2 + j) (by omega) ?_
              refine H.loadSl (i := j) hs agg3 _ rfl hgk ?_
              refine cond_beq (fun he => ?_) (fun he => ?_)
              · rw [if_pos he] at hsn
                rw [hsn]
                exact ⟨(), ⟨up (by omega), trivial⟩, H⟩
              · rw [if_neg he, Nat.add_zero] at hsn
                rw [hsn]
                exact ⟨(), ⟨rfl, trivial⟩, H⟩
            · clear H
              rintro ⟨⟩ u w5 H
              exact ⟨j + 1, by show ks.length - (j + 1) < ks.length - j; omega, ⟨up (by omega), rfl, trivial⟩, by show j + 1 ≤ ks.length; omega, H⟩
          · exact ⟨(), ⟨by rw [List.take_of_length_le (by omega)]; rfl, trivial⟩, H⟩
        · clear H
          rintro ⟨⟩ u w4 H
          replace H : Hp _ _ _ _ _ := H
          refine cond_bne (fun h9 => ?_) (fun h9 => ?_)
          · have : orderB ks = false := by
              unfold orderB
              have : ((List.range ks.length).all fun i => ks.count (i : Int) == 1) = false := by
                rw [Bool.eq_false_iff]
                intro hh
                have h1 := (List.all_eq_true.1 hh) i (List.mem_range.2 (by omega))
                have h2 : ks.count (i : Int) = 1 := by simpa using h1
                omega
              rw [this, Bool.and_false]
            rw [this]
            exact ⟨rfl, H.keeps⟩
          · exact ⟨(), trivial, by omega, H⟩
      · clear H
        rintro ⟨⟩ u w3 ⟨hc, H⟩
        refine ⟨i + 1, by show ks.length - (i + 1) < ks.length - i; omega, ⟨up (by omega), trivial⟩, ⟨by show i + 1 ≤ ks.length; omega, fun i' hi' => ?_⟩, H⟩
        by_cases he : i' = i
        · subst he; exact hc
        · exact hall i' (by omega)
    · exact ⟨(), trivial, fun i' hi' => hall i' (by omega), H⟩
  clear H
  rintro ⟨⟩ u w2 ⟨hall, H⟩
  replace H : Hp _ _ _ _ _ := H
  have : orderB ks = true := by
    unfold orderB
    rw [decide_eq_true h8, Bool.true_and, List.all_eq_true]
    intro i hi
    simpa using hall i (List.mem_range.1 hi)
  rw [this]
  exact ⟨rfl, H.keeps⟩
end Go.Proofs.Ytjebpngdinbckaa
end

section
/- Decision diagrams: New. -/
namespace Go.Proofs.Ytjebpngdinbckaa
open Go.Dk
attribute [local irreducible] IntKind.wrap

/-- A diagram that is handed out. -/
def bdR (g ga r co : Nat) (B : Option Addr) (o : List Nat) (sv0 : Value) (room : Int) (A : Ar) : Res :=
  seps [own 3 1 (.slice B o.length co) o.length (intsN o), blk g 213 (bdC B o.length co ga), arR ga r sv0 room A]
theorem _root_.Go.Dk.Hp.bdOpen {w0 w : World} {F : Nat → Prop} {L M : List Res} {g ga r co : Nat} {B : Option Addr} {o : List Nat} {sv0 : Value} {room : Int} {A : Ar} (H : Hp w0 F w (bdR g ga r co B o sv0 room A :: L) M) :
    Hp w0 F w (arR ga r sv0 room A :: L) (bdM g ga co B o ++ M) := H.split.freeze.freeze
theorem intsN_nats {ks : List Int} (h : ∀ x ∈ ks, 0 ≤ x) : intsN (natsI ks) = intsI ks := by
  unfold intsN natsI intsI
  rw [List.map_map]
  refine List.map_congr_left fun x hx => ?_
  have := h x hx
  show Value.int .i64 ((x.toNat : Nat) : Int) = _
  rw [show ((x.toNat : Nat) : Int) = x by omega]
def metC (l : List Int) : Array Value := #[.bool (decide (0 ∈ l)), .bool (decide (1 ∈ l)), .bool (decide (2 ∈ l)), .bool (decide (3 ∈ l)), .bool (decide (4 ∈ l)), .bool (decide (5 ∈ l)), .bool (decide (6 ∈ l)), .bool (decide (7 ∈ l))]
theorem metC_get {l : List Int} {x : Int} (h0 : 0 ≤ x) (h1 : x < 8) : (metC l)[x.toNat]? = some (.bool (decide (x ∈ l))) := by
  obtain ⟨n, rfl⟩ : ∃ n : Nat, x = n := ⟨x.toNat, by omega⟩
  have hn : n < 8 := by omega
  rw [Int.toNat_natCast]
  rcases n with _ | _ | _ | _ | _ | _ | _ | _ | n
  all_goals first | rfl | omega
theorem metC_set {l : List Int} {x : Int} (h0 : 0 ≤ x) (h1 : x < 8) : (metC l).setIfInBounds x.toNat (.bool true) = metC (l ++ [x]) := by
  obtain ⟨n, rfl⟩ : ∃ n : Nat, x = n := ⟨x.toNat, by omega⟩
  have hn : n < 8 := by omega
  rw [Int.toNat_natCast]
  rcases n with _ | _ | _ | _ | _ | _ | _ | _ | n
  all_goals first | (simp [metC, Array.setIfInBounds]; done) | omega
theorem intsI_one (l : List Int) : ∀ v ∈ intsI l, v.oneCell' = true := fun v hv => by
  obtain ⟨x, _, rfl⟩ := List.mem_map.1 hv; rfl
theorem build213 {B : Option Addr} {n c ga : Nat} {w : World} {kk : Value → World → Prop} (h : kk (.agg (bdC B n c ga)) w) : buildK Try.prog 213 [(0, .slice B n c), (1, .pointer (some ⟨ga, 0, none⟩))] w kk := build_by (fun w => by kernel_rfl) h
theorem zero218 : zeroT Try.prog 218 = some (.agg #[.bool false, .bool false, .bool false, .bool false, .bool false, .bool false, .bool false, .bool false]) := by kernel_rfl
theorem ent113 : enters Try.prog 113 = true := by kernel_rfl
theorem c113 (ks : List Int) (B : Option Addr) (c : Nat) (room : Int) (w : World) (hl : ks.length ≤ 9223372036854775807) (hs : Sl w (.slice B ks.length c) 1 ks.length (intsI ks)) :
    Fun Try.prog 113 [.slice B ks.length c, .int .i64 room] w fun v w' =>
      ((¬ OrdI ks ∨ room < 0 ∨ 20000 < room) ∧ v = .tuple #[.pointer none, .int .i64 1] ∧ Same w w') ∨
      (OrdI ks ∧ 0 ≤ room ∧ room ≤ 20000 ∧ ∃ g ga r co B', v = .tuple #[.pointer (some ⟨g, 0, none⟩), .int .i64 0] ∧ NewR w w' (bdR g ga r co B' (natsI ks) (.slice none 0 0) room [])) := by
  refine fun_of_W (N := 50) Try.func113 ent113 rfl rfl rfl (by simp) ?_
  have H := Hp.start0 w
  refine cut_rule (γ := Unit) _ rfl (fun _ => []) (fun _ w' => Hp w (fun _ => False) w' [] []) ⟨(), trivial, H⟩ ?_
  clear H
  rintro ⟨⟩ u w0 H
  replace H : Hp _ _ _ _ _ := H
  refine cut_rule (γ := Unit) _ rfl (fun _ => []) (fun _ w' => ks.length ≤ 8 ∧ Hp w (fun _ => False) w' [] []) ?_ ?_
  · refine len_sl Try.underlying32 ?_
    refine cond_dec (fun h8 => ?_) (fun h8 => ?_)
    · exact .inl ⟨.inl fun h => by have := h.le; omega, rfl, H.keeps⟩
    · exact ⟨(), trivial, by omega, H⟩
  clear H
  rintro ⟨⟩ u w1 ⟨h8, H⟩
  replace H : Hp _ _ _ _ _ := H
  refine cut_rule (γ := Nat) _ rfl (fun g => [(6, .pointer (some ⟨g, 0, none⟩))]) (fun g w' => Hp w (fun _ => False) w' [blk g 218 (metC [])] []) ?_ ?_
  · refine H.alloc 218 (cs := metC []) zero218 rfl ?_
    clear H
    intro g w2 H
    exact ⟨g, ⟨rfl, trivial⟩, H⟩
  clear H
  rintro g u w2 H
  replace H : Hp _ _ _ _ _ := H
  refine cut_rule (γ := Unit) _ rfl (fun _ => []) (fun _ w' => OrdI ks ∧ Hp w (fun _ => False) w' [] []) ?_ ?_
  · refine len_sl Try.underlying32 ?_
    refine loop_rule (γ := Nat) _ rfl (fun i => [(16, .int .i64 (i : Int))]) (fun i w' => (i ≤ ks.length ∧ (ks.take i).Nodup ∧ ∀ x ∈ ks.take i, 0 ≤ x ∧ x < ks.length) ∧ Hp w (fun _ => False) w' [blk g 218 (metC (ks.take i))] []) (fun i => ks.length - i) 0 ⟨rfl, trivial⟩ ⟨⟨Nat.zero_le _, by simp, by simp⟩, H⟩ ?_
    clear H
    rintro i u w3 ⟨⟨hi, hnd, hrg⟩, H⟩
    replace H : Hp _ _ _ _ _ := H
    refine cond_dec (fun h7 => ?_) (fun h7 => ?_)
    · obtain ⟨x, hx⟩ : ∃ x, ks[i]? = some x := ⟨_, List.getElem?_eq_getElem (by omega)⟩
      obtain ⟨g2, o2, rfl⟩ := hs.A (by omega)
      have hgk : (intsI ks)[i]? = some (.int .i64 x) := by rw [intsI, List.getElem?_map, hx]; rfl
      have htk : ks.take (i + 1) = ks.take i ++ [x] := by rw [List.take_add_one, hx]; rfl
      have hxm := List.mem_of_getElem? hx
      have hno : (x < 0 ∨ ks.length ≤ x ∨ x ∈ ks.take i) → ¬ OrdI ks := fun h ho => by
        have h1 := ho.rng x hxm
        rcases h with h | h | h
        · omega
        · omega
        · have h2 := ho.nodup
          rw [← List.take_append_drop i ks] at h2
          have h3 := (List.nodup_append.1 h2).2.2 x h
          rw [List.drop_eq_getElem_cons (by omega)] at h3
          have : ks[i] = x := by have := List.getElem?_eq_getElem (l := ks) (i := i) (by omega); rw [hx] at this; injection this with this; exact this.symm
          exact h3 x (by rw [this]; exact .head _) rfl
      refine cut_rule (γ := Unit) _ rfl (fun _ => []) (fun _ w' => (0 ≤ x ∧ x < ks.length ∧ x ∉ ks.take i) ∧ Hp w (fun _ => False) w' [blk g 218 (metC (ks.take (i + 1)))] []) ?_ ?_
      · refine cut_rule (γ := Unit) _ rfl (fun _ => [(8, .int .i64 x)]) (fun _ w' => Hp w (fun _ => False) w' [blk g 218 (metC (ks.take i))] []) ?_ ?_
        · refine idxAddr_sl Try.underlying32 (s := 1) size3 i rfl (by omega) (o' := o2 + i) (by omega) ?_
          refine H.loadSl (i := i) hs agg3 _ rfl hgk ?_
          exact ⟨(), ⟨rfl, trivial⟩, H⟩
        clear H
        rintro ⟨⟩ u w4 H
        replace H : Hp _ _ _ _ _ := H
        refine cut_rule (γ := Unit) _ rfl (fun _ => []) (fun _ w' => (0 ≤ x ∧ x < ks.length ∧ x ∉ ks.take i) ∧ Hp w (fun _ => False) w' [blk g 218 (metC (ks.take i))] []) ?_ ?_
        · by_cases hx0 : x < 0
          · iterate 5 refine cond_yes (decide_eq_true (by assumption)) ?_
            iterate 5 refine cond_yes rfl ?_
            exact .inl ⟨.inl (hno (.inl hx0)), rfl, H.keeps⟩
          by_cases hx1 : (ks.length : Int) ≤ x
          · iterate 3 refine cond_no (decide_eq_false (by assumption)) ?_
            refine len_sl Try.underlying32 ?_
            iterate 2 refine cond_no (decide_eq_false (by assumption)) ?_
            iterate 4 refine cond_yes (decide_eq_true (by assumption)) ?_
            refine cond_yes rfl ?_
            exact .inl ⟨.inl (hno (.inr (.inl hx1))), rfl, H.keeps⟩
          have hg := metC_get (l := ks.take i) (x := x) (by omega) (by omega)
          iterate 3 refine cond_no (decide_eq_false (by assumption)) ?_
          refine len_sl Try.underlying32 ?_
          iterate 4 refine cond_no (decide_eq_false (by assumption)) ?_
          refine idxAddr_arr Try.underlying218 size4 x.toNat (by omega) (by omega) (o' := x.toNat) (by omega) ?_
          refine cond_no (decide_eq_false (by assumption)) ?_
          refine H.load 0 rfl agg4 hg ?_
          refine cond_no (decide_eq_false (by assumption)) ?_
          refine cond_dec (fun h19 => ?_) (fun h19 => ?_)
          · exact .inl ⟨.inl (hno (.inr (.inr h19))), rfl, H.keeps⟩
          · exact ⟨(), trivial, ⟨by omega, by omega, h19⟩, H⟩
        clear H
        rintro ⟨⟩ u w4 ⟨⟨hx0, hx1, hx2⟩, H⟩
        replace H : Hp _ _ _ _ _ := H
        refine idxAddr_arr Try.underlying218 size4 x.toNat (by omega) (by omega) (o' := x.toNat) (by omega) ?_
        refine H.store 0 rfl size4 (by show x.toNat < 8; omega) rfl ?_
        clear H
        intro w5 H
        rw [metC_set (by omega) (by omega), ← htk] at H
        exact ⟨(), trivial, ⟨hx0, hx1, hx2⟩, H⟩
      · clear H
        rintro ⟨⟩ u w4 ⟨⟨hx0, hx1, hx2⟩, H⟩
        refine ⟨i + 1, by show ks.length - (i + 1) < ks.length - i; omega, ⟨up (by omega), trivial⟩, ⟨by show i + 1 ≤ ks.length; omega, ?_, ?_⟩, H⟩
        · rw [htk]
          exact List.nodup_append.2 ⟨hnd, by simp, fun a ha b hb => by rw [List.mem_singleton] at hb; subst hb; exact fun e => hx2 (e ▸ ha)⟩
        · rw [htk]
          intro y hy
          rcases List.mem_append.1 hy with hy | hy
          · exact hrg y hy
          · rw [List.mem_singleton] at hy; subst hy; exact ⟨hx0, hx1⟩
    · rw [List.take_of_length_le (by omega)] at hnd hrg
      exact ⟨(), trivial, ⟨hnd, hrg, h8⟩, H.forget⟩
  clear H
  rintro ⟨⟩ u w3 ⟨hord, H⟩
  replace H : Hp _ _ _ _ _ := H
  by_cases hr : room < 0 ∨ 20000 < room
  · refine call_fn (c64_b room hr _) ?_
    rintro _ w4 ⟨rfl, hk⟩
    replace H := H.same hk
    clear hk
    refine cond_yes rfl ?_
    exact .inl ⟨.inr hr, rfl, H.keeps⟩
  · refine cut_rule (γ := Nat × Nat) _ rfl (fun (ga, r) => [(9, .pointer (some ⟨ga, 0, none⟩)), (10, .int .i64 0)]) (fun (ga, r) w' => Hp w (fun _ => False) w' [arR ga r (.slice none 0 0) room []] []) ?_ ?_
    · refine call_fn (c64_a room (by omega) (by omega) _) ?_
      rintro _ w4 ⟨ga, r, rfl, hn⟩
      exact ⟨(ga, r), ⟨rfl, rfl, trivial⟩, H.addNew hn⟩
    clear H
    rintro ⟨ga, r⟩ u w4 H
    replace H : Hp _ _ _ _ _ := H
    refine cut_rule (γ := Unit) _ rfl (fun _ => []) (fun _ w' => Hp w (fun _ => False) w' [arR ga r (.slice none 0 0) room []] []) ?_ ?_
    · refine cond_no rfl ?_
      exact ⟨(), trivial, H⟩
    clear H
    rintro ⟨⟩ u w5 H
    replace H : Hp _ _ _ _ _ := H
    refine Hp.buildNil H T32 ?_
    clear H
    intro g1 w6 H
    refine Hp.appendCopy H 0 T32 rfl (hs.same H.keeps) (intsI_one ks) (by omega) (by omega) ?_
    clear H
    intro A2 d2 w7 H
    refine build213 ?_
    refine H.box 213 _ rfl ?_
    clear H
    intro g10 w10 H
    refine .inr ⟨hord, by omega, by omega, g10, ga, r, d2, A2, rfl, ?_⟩
    have e1 : (natsI ks).length = ks.length := natsI_length ks
    have e2 := intsN_nats (ks := ks) fun x hx => (hord.rng x hx).1
    have H2 : Hp w (fun _ => False) w10 ([own 3 1 (.slice A2 (natsI ks).length d2) (natsI ks).length (intsN (natsI ks)), blk g10 213 (bdC A2 (natsI ks).length d2 ga), arR ga r (.slice none 0 0) room []] ++ []) [] := by
      rw [e1, e2]
      exact H.front 1 rfl
    exact H2.join.out
end Go.Proofs.Ytjebpngdinbckaa
end

section
/- Decision diagrams: maps whose keys are arrays of three numbers. -/
namespace Go.Proofs.Ytjebpngdinbckaa
open Go.Dk
attribute [local irreducible] IntKind.wrap

theorem agg220 : aggT Try.prog 220 = some true := by kernel_rfl
theorem size220 : sizeT Try.prog 220 = some 3 := by kernel_rfl
theorem zero220 : zeroT Try.prog 220 = some (k3 0 0 0) := by kernel_rfl
def k3c (a b c : Int) : Array Value := #[.int .i64 a, .int .i64 b, .int .i64 c]
theorem run_eq220 (a b c a' b' c' : Int) (w : World) : (Op.equal 220 (k3 a b c) (k3 a' b' c')).run Try.prog w = .ok (a == a' && (b == b' && c == c')) w := by
  have hr : ∀ d', (Op.equalIn (d' + 2) 220 (k3 a b c) (k3 a' b' c')).run Try.prog w = .ok (a == a' && (b == b' && c == c')) w := by
    intro d'
    unfold k3
    rw [Op.equalIn]
    have i0 := run_eqInt Try.underlying3 d' a a'
    have i1 := run_eqInt Try.underlying3 d' b b'
    have i2 := run_eqInt Try.underlying3 d' c c'
    have p0 : ∀ (x y z : Int) w, (Go.part 3 #[.int .i64 x, .int .i64 y, .int .i64 z] 0).run Try.prog w = .ok (.int .i64 x) w := fun x y z w => run_part agg3 rfl w
    have p1 : ∀ (x y z : Int) w, (Go.part 3 #[.int .i64 x, .int .i64 y, .int .i64 z] 1).run Try.prog w = .ok (.int .i64 y) w := fun x y z w => run_part agg3 rfl w
    have p2 : ∀ (x y z : Int) w, (Go.part 3 #[.int .i64 x, .int .i64 y, .int .i64 z] 2).run Try.prog w = .ok (.int .i64 z) w := fun x y z w => run_part agg3 rfl w
    generalize (a == a') = b0 at *
    generalize (b == b') = b1 at *
    generalize (c == c') = b2 at *
    simp only [Sem.run_bind, run_underlying Try.underlying220, Result.andThen_ok, Go.Dk.run_sizeOf size3]
    cases b0 <;> cases b1 <;> cases b2 <;> simp [Std.Legacy.Range.forIn_eq_forIn_range', List.range', p0, p1, p2, i0, i1, i2, Std.Legacy.Range.size]
  exact hr 9998
theorem check220 (a b c : Int) (em : Bool) (w : World) : (Instr.checkKey em 10000 220 (k3 a b c)).run Try.prog w = .ok () w := by kernel_rfl
theorem asking220 (w : World) (a b c : Int) : ∀ (es : List MapEntry) (i : Nat), (∀ e ∈ es, isK3 e.key) →
    ((Instr.findAsking 220 (k3 a b c) es i).run Try.prog w = .ok none w ∧ ∀ e ∈ es, e.key ≠ k3 a b c) ∨ ∃ j e, (Instr.findAsking 220 (k3 a b c) es i).run Try.prog w = .ok (some (i + j, e.val)) w ∧ es[j]? = some e ∧ e.key = k3 a b c
  | [], i, _ => .inl ⟨by simp [Instr.findAsking], by simp⟩
  | e :: es, i, h => by
    obtain ⟨a', b', c', he⟩ := h e (.head _)
    have hq := run_eq220 a b c a' b' c' w
    by_cases hk : a = a' ∧ b = b' ∧ c = c'
    · obtain ⟨rfl, rfl, rfl⟩ := hk
      exact .inr ⟨0, e, by simp [Instr.findAsking, he, hq], rfl, he⟩
    · have hf : (a == a' && (b == b' && c == c')) = false := by
        rw [Bool.eq_false_iff]; intro hh; simp at hh; exact hk hh
      rw [hf] at hq
      have hne : e.key ≠ k3 a b c := fun hh => hk (by rw [he, k3_inj] at hh; exact ⟨hh.1.symm, hh.2.1.symm, hh.2.2.symm⟩)
      rcases asking220 w a b c es (i + 1) (fun x hx => h x (.tail _ hx)) with ⟨h1, h2⟩ | ⟨j, e', h1, h2, h3⟩
      · refine .inl ⟨by simp [Instr.findAsking, he, hq, h1], fun x hx => ?_⟩
        rcases List.mem_cons.1 hx with rfl | hx
        · exact hne
        · exact h2 x hx
      · exact .inr ⟨j + 1, e', by simp [Instr.findAsking, he, hq, h1]; omega, by simpa using h2, h3⟩
theorem KL220 : KL Try.prog 220 isK3 where
  check := by rintro w em _ ⟨a, b, c, rfl⟩; exact check220 a b c em w
  find := by
    rintro w _ ⟨a, b, c, rfl⟩ es he
    cases es with
    | nil => exact .inl ⟨by simp [Instr.findKey, run_underlying Try.underlying220, Instr.findNow], by simp⟩
    | cons e es =>
      have hn : ∀ n t, Instr.findNow (.array n t) (k3 a b c) (e :: es) 0 = none := fun n t => rfl
      have := asking220 w a b c (e :: es) 0 he
      simp only [Nat.zero_add] at this
      simp only [Instr.findKey, Sem.run_bind, run_underlying Try.underlying220, Result.andThen_ok, hn]
      exact this
  stays := by
    rintro w _ ⟨a, b, c, rfl⟩
    have : Instr.sameBits 10000 (k3 a b c) (k3 a b c) = true := by
      show (_ && _) = true
      simp [Instr.sameBits]
    simp [Instr.keyThatStays, this]
abbrev I3 := Int × Int × Int
def ka3 (x : I3) : Value := k3 x.1 x.2.1 x.2.2
theorem ka3_inj (x y : I3) (h : ka3 x = ka3 y) : x = y := by
  obtain ⟨h1, h2, h3⟩ := k3_inj.1 h
  obtain ⟨a, b, c⟩ := x
  obtain ⟨a', b', c'⟩ := y
  simp only at h1 h2 h3
  rw [h1, h2, h3]
theorem W221 : MapW Try.prog 221 220 3 ka3 (fun k : Int => Value.int .i64 k) (.int .i64 0) := ⟨Try.underlying221, KL220.mono fun _ ⟨x, h⟩ => ⟨_, _, _, h⟩, ka3_inj, zero3⟩
/-- What is remembered is so. -/
def MemoOk (A : Ar) (l : List (I3 × Int)) : Prop := ∀ f g h id, aget l (f, g, h) = some id → (0 ≤ lvlA A f ∧ 0 ≤ lvlA A g ∧ 0 ≤ lvlA A h) ∧ Rep A id (iteF A f g h)
theorem MemoOk.nil (A : Ar) : MemoOk A [] := fun f g h id hh => by simp [aget] at hh
theorem MemoOk.ext {A A' : Ar} {l : List (I3 × Int)} (hA : ArInv A) (hA' : ArInv A') (hx : Ext A A') (h : MemoOk A l) : MemoOk A' l := fun f g k id hh => by
  obtain ⟨⟨h1, h2, h3⟩, h4⟩ := h f g k id hh
  exact ⟨⟨by rw [hx.lvl h1]; exact h1, by rw [hx.lvl h2]; exact h2, by rw [hx.lvl h3]; exact h3⟩, by rw [iteF_ext hA hA' hx h1 h2 h3]; exact h4.ext hA hA' hx⟩
theorem MemoOk.put {A : Ar} {l : List (I3 × Int)} (h : MemoOk A l) {f g k id : Int} (h1 : 0 ≤ lvlA A f) (h2 : 0 ≤ lvlA A g) (h3 : 0 ≤ lvlA A k) (hr : Rep A id (iteF A f g k)) : MemoOk A (aset l (f, g, k) id) := fun f' g' k' id' hh => by
  rw [aget_aset] at hh
  split at hh
  · rename_i he
    injection he with e1 e2
    injection e2 with e2 e3
    subst e1; subst e2; subst e3
    injection hh with hh
    subst hh
    exact ⟨⟨h1, h2, h3⟩, hr⟩
  · exact h f' g' k' id' hh
end Go.Proofs.Ytjebpngdinbckaa
end

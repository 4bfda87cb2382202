import Derived.Test.YtjebpngdinbckaaPart5
/- Lemmas, part 6: what the proof of the row uses. -/
section
/- Decision diagrams in an arena: what an id says; one id for one thing. Plain Lean. -/
namespace Go.Dk

/-- What levels are turned. -/
abbrev Asg := Nat → Bool
def upA (a : Asg) (k : Nat) (b : Bool) : Asg := fun j => if j = k then b else a j
def mixA (k : Nat) (a b : Asg) : Asg := fun j => if j < k then a j else b j
def ndA (A : Ar) (id : Int) : Option Nd := if 2 ≤ id then slot A (id - 2).toNat else none
def semF (A : Ar) : Nat → Int → Asg → Bool
  | 0, id, _ => decide (id = 1)
  | f + 1, id, a =>
    match ndA A id with
    | none => decide (id = 1)
    | some d => semF A f (if a d.l then (d.hi : Int) else (d.lo : Int)) a
/-- What an id says. -/
def sem (A : Ar) (id : Int) (a : Asg) : Bool := semF A 25 id a

theorem upA_same (a : Asg) (k : Nat) (b : Bool) : upA a k b k = b := by unfold upA; rw [if_pos rfl]
theorem upA_ne (a : Asg) {k j : Nat} (b : Bool) (h : j ≠ k) : upA a k b j = a j := by unfold upA; rw [if_neg h]
theorem upA_self (a : Asg) (k : Nat) : upA a k (a k) = a := by funext j; unfold upA; split <;> simp_all
theorem upA_up (a : Asg) (k : Nat) (b c : Bool) : upA (upA a k b) k c = upA a k c := by funext j; unfold upA; split <;> rfl
theorem upA_comm (a : Asg) {k j : Nat} (h : k ≠ j) (b c : Bool) : upA (upA a k b) j c = upA (upA a j c) k b := by
  funext i
  unfold upA
  by_cases h1 : i = j
  · rw [if_pos h1, if_neg (by omega), if_pos h1]
  · by_cases h2 : i = k
    · rw [if_neg h1, if_pos h2, if_pos h2]
    · rw [if_neg h1, if_neg h2, if_neg h2, if_neg h1]

theorem nd_lvl {A : Ar} {id : Int} {d : Nd} (h : ndA A id = some d) : lvlA A id = d.l := by
  unfold ndA at h
  split at h
  · rename_i h2
    have := lvlA_slot h
    rwa [show (((id - 2).toNat : Nat) : Int) + 2 = id by omega] at this
  · cases h
theorem nd_slot {A : Ar} {i : Nat} : ndA A ((i : Int) + 2) = slot A i := by
  unfold ndA
  rw [if_pos (by omega), show ((i : Int) + 2 - 2).toNat = i by omega]
theorem nd_place {A : Ar} {id : Int} {d : Nd} (h : ndA A id = some d) : ∃ i : Nat, id = (i : Int) + 2 ∧ slot A i = some d := by
  unfold ndA at h
  split at h
  · exact ⟨(id - 2).toNat, by omega, h⟩
  · cases h
theorem nd_none {A : Ar} {id : Int} (h : ndA A id = none) (h0 : 0 ≤ lvlA A id) : id = 0 ∨ id = 1 := by
  rcases lvlA_node h0 with h1 | h1 | ⟨i, n, rfl, hs, _⟩
  · exact .inl h1
  · exact .inr h1
  · rw [nd_slot, hs] at h; cases h
theorem lvl_end {A : Ar} {id : Int} (h : id = 0 ∨ id = 1) : lvlA A id = 24 := by unfold lvlA; rw [if_pos h]
theorem nd_end {A : Ar} {id : Int} (h : id = 0 ∨ id = 1) : ndA A id = none := by unfold ndA; rw [if_neg (by omega)]
theorem lev_of {A : Ar} (h : ArInv A) {id : Int} {d : Nd} (hd : ndA A id = some d) : (d.l : Int) < lvlA A d.lo ∧ (d.l : Int) < lvlA A d.hi := by
  obtain ⟨i, rfl, hs⟩ := nd_place hd
  exact h.lev i d hs

theorem semF_stable {A : Ar} (h : ArInv A) (a : Asg) : ∀ (f f' : Nat) (id : Int), 24 - lvlA A id < f → 24 - lvlA A id < f' → semF A f id a = semF A f' id a
  | 0, _, id, h1, _ => by have := lvlA_le h id; omega
  | _ + 1, 0, id, _, h2 => by have := lvlA_le h id; omega
  | f + 1, f' + 1, id, h1, h2 => by
    unfold semF
    cases hd : ndA A id with
    | none => rfl
    | some d =>
      have hl := nd_lvl hd
      have hlev := lev_of h hd
      refine semF_stable h a f f' _ ?_ ?_
      · split <;> omega
      · split <;> omega
theorem sem_none {A : Ar} {id : Int} (h : ndA A id = none) (a : Asg) : sem A id a = decide (id = 1) := by
  unfold sem semF
  rw [h]
theorem sem_node {A : Ar} (h : ArInv A) {id : Int} {d : Nd} (hd : ndA A id = some d) (a : Asg) : sem A id a = sem A (if a d.l then (d.hi : Int) else (d.lo : Int)) a := by
  have hl := nd_lvl hd
  have hlev := lev_of h hd
  have e : sem A id a = semF A 24 (if a d.l then (d.hi : Int) else (d.lo : Int)) a := by
    unfold sem
    rw [semF, hd]
  rw [e]
  refine semF_stable h a _ _ _ ?_ ?_ <;> split <;> omega
theorem lvl_induct {A : Ar} (h : ArInv A) {P : Int → Prop} (h0 : ∀ id, ndA A id = none → P id) (h1 : ∀ id d, ndA A id = some d → P d.lo → P d.hi → P id) : ∀ id, P id := by
  have key : ∀ (f : Nat) (id : Int), 24 - lvlA A id < f → P id := by
    intro f
    induction f with
    | zero => intro id hf; have := lvlA_le h id; omega
    | succ f ih =>
      intro id hf
      cases hd : ndA A id with
      | none => exact h0 id hd
      | some d =>
        have hl := nd_lvl hd
        have hlev := lev_of h hd
        exact h1 id d hd (ih _ (by omega)) (ih _ (by omega))
  intro id
  have : -1 ≤ lvlA A id := by
    unfold lvlA
    split
    · omega
    · split
      · split <;> omega
      · omega
  exact key 26 id (by omega)
theorem sem_agree {A : Ar} (h : ArInv A) {a b : Asg} : ∀ id : Int, (∀ j : Nat, lvlA A id ≤ j → a j = b j) → sem A id a = sem A id b := by
  refine lvl_induct h (fun id hd _ => ?_) (fun id d hd ih1 ih2 hab => ?_)
  · rw [sem_none hd, sem_none hd]
  · have hl := nd_lvl hd
    have hlev := lev_of h hd
    rw [sem_node h hd, sem_node h hd, hab d.l (by omega)]
    split
    · exact ih2 fun j hj => hab j (by omega)
    · exact ih1 fun j hj => hab j (by omega)
theorem sem_up {A : Ar} (h : ArInv A) {id : Int} {k : Nat} (hk : (k : Int) < lvlA A id) (a : Asg) (b : Bool) : sem A id (upA a k b) = sem A id a :=
  sem_agree h id fun j hj => upA_ne a b (by omega)

/-- A diagram of n levels. -/
structure BInv (n : Nat) (A : Ar) : Prop where
  inv : ArInv A
  lt : ∀ i d, slot A i = some d → d.l < n
  ne : ∀ i d, slot A i = some d → d.lo ≠ d.hi
theorem BInv.nil (n : Nat) : BInv n [] :=
  ⟨⟨fun i j d h => by simp [slot] at h, fun i d h => by simp [slot] at h, fun i d h => by simp [slot] at h⟩, fun i d h => by simp [slot] at h, fun i d h => by simp [slot] at h⟩

theorem sem_lo {A : Ar} (h : ArInv A) {id : Int} {d : Nd} (hd : ndA A id = some d) (a : Asg) : sem A d.lo a = sem A id (upA a d.l false) := by
  rw [sem_node h hd, upA_same]
  exact (sem_up h (lev_of h hd).1 a false).symm
theorem sem_hi {A : Ar} (h : ArInv A) {id : Int} {d : Nd} (hd : ndA A id = some d) (a : Asg) : sem A d.hi a = sem A id (upA a d.l true) := by
  rw [sem_node h hd, upA_same]
  exact (sem_up h (lev_of h hd).2 a true).symm

/-- Two ids that say the same are one. -/
theorem canon {n : Nat} {A : Ar} (h : BInv n A) : ∀ f g : Int, 0 ≤ lvlA A f → 0 ≤ lvlA A g → (∀ a, sem A f a = sem A g a) → f = g := by
  have key : ∀ (m : Nat) (f g : Int), 0 ≤ lvlA A f → 0 ≤ lvlA A g → 48 - lvlA A f - lvlA A g < m → (∀ a, sem A f a = sem A g a) → f = g := by
    intro m
    induction m with
    | zero =>
      intro f g _ _ hm _
      have := lvlA_le h.inv f
      have := lvlA_le h.inv g
      omega
    | succ m ih =>
      have one : ∀ (f g : Int) (d : Nd), ndA A f = some d → (d.l : Int) < lvlA A g → 0 ≤ lvlA A g → 48 - lvlA A f - lvlA A g < (m + 1 : Nat) → (∀ a, sem A f a = sem A g a) → False := by
        intro f g d hd hlt hg hm hs
        have hl := nd_lvl hd
        have hlev := lev_of h.inv hd
        obtain ⟨i, _, hsl⟩ := nd_place hd
        have e1 : (d.lo : Int) = g := ih _ _ (by omega) hg (by omega) fun a => by rw [sem_lo h.inv hd, hs]; exact sem_up h.inv hlt a false
        have e2 : (d.hi : Int) = g := ih _ _ (by omega) hg (by omega) fun a => by rw [sem_hi h.inv hd, hs]; exact sem_up h.inv hlt a true
        exact h.ne i d hsl (by omega)
      intro f g hf hg hm hs
      cases hfd : ndA A f with
      | none =>
        have hf1 := nd_none hfd hf
        cases hgd : ndA A g with
        | none =>
          have hg1 := nd_none hgd hg
          have := hs fun _ => false
          rw [sem_none hfd, sem_none hgd] at this
          rcases hf1 with rfl | rfl <;> rcases hg1 with rfl | rfl <;> first | rfl | (simp at this)
        | some d' =>
          have hl := nd_lvl hgd
          have := lev_of h.inv hgd
          have h1 := lvlA_le h.inv (d'.lo : Int)
          have h24 := lvl_end (A := A) hf1
          exact (one g f d' hgd (by omega) hf (by omega) fun a => (hs a).symm).elim
      | some d =>
        have hl := nd_lvl hfd
        have hlev := lev_of h.inv hfd
        cases hgd : ndA A g with
        | none =>
          have h24 := lvl_end (A := A) (nd_none hgd hg)
          have h1 := lvlA_le h.inv (d.lo : Int)
          exact (one f g d hfd (by omega) hg (by omega) hs).elim
        | some d' =>
          have hl' := nd_lvl hgd
          have hlev' := lev_of h.inv hgd
          rcases Nat.lt_trichotomy d.l d'.l with hlt | heq | hlt
          · exact (one f g d hfd (by omega) hg (by omega) hs).elim
          · have e1 : (d.lo : Int) = d'.lo := ih _ _ (by omega) (by omega) (by omega) fun a => by rw [sem_lo h.inv hfd, sem_lo h.inv hgd, hs, heq]
            have e2 : (d.hi : Int) = d'.hi := ih _ _ (by omega) (by omega) (by omega) fun a => by rw [sem_hi h.inv hfd, sem_hi h.inv hgd, hs, heq]
            obtain ⟨i, rfl, hi⟩ := nd_place hfd
            obtain ⟨j, rfl, hj⟩ := nd_place hgd
            obtain ⟨l, lo, hi'⟩ := d
            obtain ⟨l', lo', hi''⟩ := d'
            simp only at heq e1 e2
            have e1' : lo = lo' := by omega
            have e2' : hi' = hi'' := by omega
            subst heq; subst e1'; subst e2'
            have := h.inv.uniq i j _ hi hj
            omega
          · exact (one g f d' hgd (by omega) hf (by omega) fun a => (hs a).symm).elim
  intro f g hf hg hs
  exact key 49 f g hf hg (by omega) hs

/-! ### What is said -/
abbrev Fn := Asg → Bool
def Indep (F : Fn) (k : Nat) : Prop := ∀ a b, F (upA a k b) = F a
structure Rep (A : Ar) (id : Int) (F : Fn) : Prop where
  there : 0 ≤ lvlA A id
  says : ∀ a, sem A id a = F a
theorem rep_canon {n : Nat} {A : Ar} (h : BInv n A) {f g : Int} {F : Fn} (hf : Rep A f F) (hg : Rep A g F) : f = g :=
  canon h f g hf.there hg.there fun a => by rw [hf.says, hg.says]
theorem rep_eq {n : Nat} {A : Ar} (h : BInv n A) {f g : Int} {F G : Fn} (hf : Rep A f F) (hg : Rep A g G) : f = g ↔ ∀ a, F a = G a := by
  constructor
  · rintro rfl a; rw [← hf.says, hg.says]
  · intro he
    exact canon h f g hf.there hg.there fun a => by rw [hf.says, hg.says, he]
theorem rep_zero {A : Ar} : Rep A 0 fun _ => false := ⟨by rw [lvl_end (.inl rfl)]; decide, fun a => by rw [sem_none (nd_end (.inl rfl))]; rfl⟩
theorem rep_one {A : Ar} : Rep A 1 fun _ => true := ⟨by rw [lvl_end (.inr rfl)]; decide, fun a => by rw [sem_none (nd_end (.inr rfl))]; rfl⟩
theorem rep_self {A : Ar} {id : Int} (h : 0 ≤ lvlA A id) : Rep A id (sem A id) := ⟨h, fun _ => rfl⟩
theorem Rep.congr {A : Ar} {id : Int} {F G : Fn} (h : Rep A id F) (he : ∀ a, F a = G a) : Rep A id G := ⟨h.there, fun a => (h.says a).trans (he a)⟩
theorem dep_node {n : Nat} {A : Ar} (h : BInv n A) {id : Int} {d : Nd} (hd : ndA A id = some d) : ¬ Indep (sem A id) d.l := fun hi => by
  obtain ⟨i, _, hs⟩ := nd_place hd
  have hlev := lev_of h.inv hd
  have : (d.lo : Int) = d.hi := canon h _ _ (by omega) (by omega) fun a => by rw [sem_lo h.inv hd, sem_hi h.inv hd, hi, hi]
  exact h.ne i d hs (by omega)
/-- What hangs on no level up to k stands below it. -/
theorem rep_level {n : Nat} {A : Ar} (h : BInv n A) {id : Int} {F : Fn} (hr : Rep A id F) {k : Nat} (hk : k < 24) (hi : ∀ j, j ≤ k → Indep F j) : (k : Int) < lvlA A id := by
  cases hd : ndA A id with
  | none => rw [lvl_end (nd_none hd hr.there)]; omega
  | some d =>
    have hl := nd_lvl hd
    rcases Nat.lt_or_ge k d.l with hlt | hge
    · omega
    · exact (dep_node h hd fun a b => by rw [hr.says, hr.says]; exact hi d.l hge a b).elim
theorem rep_indep {A : Ar} (h : ArInv A) {id : Int} {F : Fn} (hr : Rep A id F) {k : Nat} (hk : (k : Int) < lvlA A id) : Indep F k := fun a b => by
  rw [← hr.says, ← hr.says]; exact sem_up h hk a b
theorem rep_top {n : Nat} {A : Ar} (h : BInv n A) {id : Int} {F : Fn} (hr : Rep A id F) {k : Nat} (hn : n ≤ k) : Indep F k := fun a b => by
  rw [← hr.says, ← hr.says]
  have : ∀ id, sem A id (upA a k b) = sem A id a := by
    refine lvl_induct h.inv (fun id hd => ?_) (fun id d hd ih1 ih2 => ?_)
    · rw [sem_none hd, sem_none hd]
    · obtain ⟨i, _, hs⟩ := nd_place hd
      have := h.lt i d hs
      rw [sem_node h.inv hd, sem_node h.inv hd, upA_ne a b (by omega)]
      split
      · exact ih2
      · exact ih1
  exact this id

/-! ### More nodes -/
def Ext (A A' : Ar) : Prop := ∀ i d, slot A i = some d → slot A' i = some d
theorem Ext.refl (A : Ar) : Ext A A := fun _ _ h => h
theorem Ext.trans {A B C : Ar} (h : Ext A B) (k : Ext B C) : Ext A C := fun i d hd => k i d (h i d hd)
theorem Ext.nd {A A' : Ar} (h : Ext A A') {id : Int} {d : Nd} (hd : ndA A id = some d) : ndA A' id = some d := by
  obtain ⟨i, rfl, hs⟩ := nd_place hd
  rw [nd_slot]; exact h i d hs
theorem Ext.lvl {A A' : Ar} (h : Ext A A') {id : Int} (h0 : 0 ≤ lvlA A id) : lvlA A' id = lvlA A id := by
  cases hd : ndA A id with
  | none => rw [lvl_end (nd_none hd h0), lvl_end (nd_none hd h0)]
  | some d => rw [nd_lvl hd, nd_lvl (h.nd hd)]
theorem Ext.sem {A A' : Ar} (hA : ArInv A) (hA' : ArInv A') (h : Ext A A') (a : Asg) : ∀ id, 0 ≤ lvlA A id → Dk.sem A' id a = Dk.sem A id a := by
  refine lvl_induct hA (fun id hd h0 => ?_) (fun id d hd ih1 ih2 _ => ?_)
  · rw [sem_none hd, sem_none (nd_end (nd_none hd h0))]
  · have hlev := lev_of hA hd
    rw [sem_node hA hd, sem_node hA' (h.nd hd)]
    split
    · exact ih2 (by omega)
    · exact ih1 (by omega)
theorem Rep.ext {A A' : Ar} (hA : ArInv A) (hA' : ArInv A') (h : Ext A A') {id : Int} {F : Fn} (hr : Rep A id F) : Rep A' id F :=
  ⟨by rw [h.lvl hr.there]; exact hr.there, fun a => by rw [h.sem hA hA' a id hr.there, hr.says]⟩
theorem ext_put {A : Ar} {n : Nd} : Ext A (putA A n) := fun i d hd => by
  rw [slot_put]
  split
  · rename_i he
    subst he
    rw [slot_free] at hd; cases hd
  · exact hd

/-! ### What is needed, and what is lacking -/
/-- A node says what comes of F when the levels ahead are turned in some way. -/
def Needed (A : Ar) (F : Fn) (i : Nat) (d : Nd) : Prop := ∃ a, ∀ b, sem A ((i : Int) + 2) b = F (mixA d.l a b)
/-- Something that F needs is nowhere. -/
def Lack (A : Ar) (F : Fn) : Prop := ∃ k a, ¬ Indep (fun b => F (mixA k a b)) k ∧ ∀ i d, slot A i = some d → ¬ ∀ b, sem A ((i : Int) + 2) b = F (mixA k a b)
theorem mixA_up_lt {k j : Nat} (h : j < k) (a b : Asg) (x : Bool) : mixA k a (upA b j x) = mixA k a b := by
  funext i
  unfold mixA upA
  split
  · rfl
  · rw [if_neg (by omega)]
theorem mixA_up_ge {k j : Nat} (h : k ≤ j) (a b : Asg) (x : Bool) : mixA k a (upA b j x) = upA (mixA k a b) j x := by
  funext i
  unfold mixA upA
  by_cases h1 : i = j
  · subst h1; simp [Nat.not_lt.2 h]
  · simp [h1]
theorem mixA_upL {k j : Nat} (h : j < k) (a b : Asg) (x : Bool) : mixA k (upA a j x) b = upA (mixA k a b) j x := by
  funext i
  unfold mixA upA
  by_cases h1 : i = j
  · subst h1; simp [h]
  · simp [h1]
theorem mixA_zero (a b : Asg) : mixA 0 a b = b := rfl
theorem indep_mix {F : Fn} {k : Nat} (h : ∀ j, j < k → Indep F j) (a b : Asg) : F (mixA k a b) = F b := by
  have : ∀ m, m ≤ k → F (mixA m a b) = F b := by
    intro m
    induction m with
    | zero => intro _; rfl
    | succ m ih =>
      intro hm
      rw [← ih (by omega)]
      have : mixA (m + 1) a b = upA (mixA m a b) m (a m) := by
        funext i
        unfold mixA upA
        by_cases h1 : i = m
        · subst h1; simp
        · by_cases h2 : i < m
          · simp [h1, h2, show i < m + 1 by omega]
          · simp [h1, h2, show ¬ i < m + 1 by omega]
      rw [this]
      exact h m (by omega) _ _
  exact this k (Nat.le_refl _)
/-- What a node says hangs on its own level; so what it is needed for does. -/
theorem needed_level {n : Nat} {A : Ar} (h : BInv n A) {F : Fn} {i : Nat} {d : Nd} (hs : slot A i = some d) (hn : Needed A F i d) : ¬ Indep F d.l := fun hi => by
  obtain ⟨a, ha⟩ := hn
  refine dep_node h (id := (i : Int) + 2) (by rw [nd_slot]; exact hs) fun b x => ?_
  rw [ha, ha, mixA_up_ge (Nat.le_refl _)]
  exact hi _ _
/-- What is needed for F with a level turned is needed for F, if that hangs on nothing ahead. -/
theorem needed_up {n : Nat} {A : Ar} (h : BInv n A) {F : Fn} {k : Nat} {v : Bool} (hF : ∀ j, j < k → Indep F j) {i : Nat} {d : Nd} (hs : slot A i = some d) (hn : Needed A (fun b => F (upA b k v)) i d) : Needed A F i d := by
  have hlt : k < d.l := by
    rcases Nat.lt_or_ge k d.l with h1 | h1
    · exact h1
    · refine (needed_level h hs hn ?_).elim
      intro a b
      show F (upA (upA a d.l b) k v) = F (upA a k v)
      rcases Nat.eq_or_lt_of_le h1 with he | hlt
      · rw [he, upA_up]
      · rw [upA_comm a (by omega)]
        exact hF d.l hlt _ _
  obtain ⟨a, ha⟩ := hn
  exact ⟨upA a k v, fun b => by rw [ha, mixA_upL hlt]⟩
theorem lack_up {A : Ar} {F : Fn} {k : Nat} {v : Bool} (hF : ∀ j, j < k → Indep F j) (h : Lack A fun b => F (upA b k v)) : Lack A F := by
  obtain ⟨m, a, h1, h2⟩ := h
  have hlt : k < m := by
    rcases Nat.lt_or_ge k m with h3 | h3
    · exact h3
    · refine (h1 ?_).elim
      intro b x
      show F (upA (mixA m a (upA b m x)) k v) = F (upA (mixA m a b) k v)
      rw [mixA_up_ge (Nat.le_refl _)]
      rcases Nat.eq_or_lt_of_le h3 with he | hlt
      · rw [he, upA_up]
      · rw [upA_comm _ (by omega)]
        exact hF m hlt _ _
  refine ⟨m, upA a k v, fun hi => h1 fun b x => ?_, fun i d hs hh => h2 i d hs fun b => ?_⟩
  · have := hi b x
    simp only [mixA_upL hlt] at this
    exact this
  · rw [hh b, mixA_upL hlt]

/-! ### What comes of making -/
structure Made (n : Nat) (room : Int) (A A' : Ar) (F : Fn) (id e : Int) : Prop where
  ext : Ext A A'
  inv : BInv n A'
  len : (A'.length : Int) ≤ max (A.length : Int) room
  need : ∀ i d, slot A' i = some d → slot A i = none → Needed A' F i d
  res : (e = 0 ∧ Rep A' id F) ∨ (e = 5 ∧ id = 0 ∧ room ≤ (liveA A' : Int) ∧ Lack A' F)
theorem Made.refl {n : Nat} {room : Int} {A : Ar} {F : Fn} {id : Int} (h : BInv n A) (hr : Rep A id F) : Made n room A A F id 0 :=
  ⟨Ext.refl A, h, by omega, fun i d h1 h2 => (by rw [h1] at h2; cases h2), .inl ⟨rfl, hr⟩⟩
theorem Made.ok {n : Nat} {room : Int} {A A' : Ar} {F : Fn} {id : Int} (h : Made n room A A' F id 0) : Rep A' id F := by
  rcases h.res with ⟨_, h⟩ | ⟨h, _⟩
  · exact h
  · cases h
theorem Needed.ext {A A' : Ar} (hA : ArInv A) (hA' : ArInv A') (h : Ext A A') {F : Fn} {i : Nat} {d : Nd} (hs : slot A i = some d) (hn : Needed A F i d) : Needed A' F i d := by
  obtain ⟨a, ha⟩ := hn
  refine ⟨a, fun b => ?_⟩
  rw [h.sem hA hA' b _ (by rw [lvlA_slot hs]; omega), ha]
def nodeA (room : Int) (A : Ar) (k : Nat) (lo hi : Int) : Ar × Int × Int := if lo = hi then (A, lo, 0) else mkA room A k lo hi
/-- To make a node of two things that hang on no level up to it. -/
theorem made_node {n : Nat} {room : Int} {A : Ar} (h : BInv n A) {k : Nat} (hk : k < n) (hn : n ≤ 23) {lo hi : Int} {F : Fn} (hF : ∀ j, j < k → Indep F j) (hlo : Rep A lo fun b => F (upA b k false)) (hhi : Rep A hi fun b => F (upA b k true)) :
    Made n room A (nodeA room A k lo hi).1 F (nodeA room A k lo hi).2.1 (nodeA room A k lo hi).2.2 := by
  have hind : ∀ v, ∀ j, j ≤ k → Indep (fun b => F (upA b k v)) j := fun v j hj a b => by
    show F (upA (upA a j b) k v) = F (upA a k v)
    rcases Nat.eq_or_lt_of_le hj with he | hlt
    · rw [he, upA_up]
    · rw [upA_comm a (by omega)]
      exact hF j hlt _ _
  have h1 := rep_level h hlo (by omega) (hind false)
  have h2 := rep_level h hhi (by omega) (hind true)
  have h24 := lvlA_le h.inv
  have h0lo : 0 ≤ lo := by
    rcases lvlA_node hlo.there with e | e | ⟨i, _, e, _⟩ <;> omega
  have h0hi : 0 ≤ hi := by
    rcases lvlA_node hhi.there with e | e | ⟨i, _, e, _⟩ <;> omega
  have hsplit : ∀ b, F b = if b k then F (upA b k true) else F (upA b k false) := fun b => by
    cases hb : b k with
    | true => simp only [if_true]; rw [← hb, upA_self]
    | false => simp only [Bool.false_eq_true, if_false]; rw [← hb, upA_self]
  unfold nodeA
  split
  · rename_i he
    refine Made.refl h ⟨hlo.there, fun a => ?_⟩
    have e1 := hlo.says a
    have e2 := hhi.says a
    rw [← he] at e2
    rw [hsplit a]
    split
    · exact e2
    · exact e1
  · rename_i hne
    unfold mkA
    rw [if_neg (by omega)]
    have hnd : (⟨((k : Int)).toNat, lo.toNat, hi.toNat⟩ : Nd) = ⟨k, lo.toNat, hi.toNat⟩ := by simp
    rw [hnd]
    have elo : ((lo.toNat : Nat) : Int) = lo := by omega
    have ehi : ((hi.toNat : Nat) : Int) = hi := by omega
    have rep_of : ∀ (B : Ar) (i : Nat), ArInv B → Ext A B → slot B i = some ⟨k, lo.toNat, hi.toNat⟩ → Rep B ((i : Int) + 2) F := fun B i hB hx hs => by
      refine ⟨by rw [lvlA_slot hs]; exact Int.natCast_nonneg _, fun a => ?_⟩
      rw [sem_node hB (id := (i : Int) + 2) (by rw [nd_slot]; exact hs)]
      simp only [elo, ehi]
      rw [hsplit a]
      split
      · exact (hhi.ext h.inv hB hx).says a
      · exact (hlo.ext h.inv hB hx).says a
    cases hf : findA A ⟨k, lo.toNat, hi.toNat⟩ with
    | some i =>
      show Made n room A A F (((i + 2 : Nat) : Int)) 0
      refine Made.refl h ?_
      have := rep_of A i h.inv (Ext.refl A) (findA_slot hf)
      rwa [show (((i + 2 : Nat) : Int)) = (i : Int) + 2 by omega]
    | none =>
      simp only
      split
      · rename_i hfull
        show Made n room A A F 0 5
        refine ⟨Ext.refl A, h, by omega, fun i d a b => (by rw [a] at b; cases b), .inr ⟨rfl, rfl, hfull, k, fun _ => false, fun hi => ?_, fun i d hs hh => ?_⟩⟩
        · refine hne (rep_canon h hlo ⟨hhi.there, fun a => ?_⟩)
          have e1 := hi a true
          have e2 := hi a false
          simp only [indep_mix hF] at e1 e2
          rw [hhi.says, e1, e2]
        · have hh' : ∀ b, sem A ((i : Int) + 2) b = F b := fun b => by rw [hh b, indep_mix hF]
          have hd : ndA A ((i : Int) + 2) = some d := by rw [nd_slot]; exact hs
          have hl : d.l = k := by
            rcases Nat.lt_trichotomy d.l k with hlt | he | hgt
            · exact (dep_node h hd fun a b => by rw [hh', hh']; exact hF d.l hlt a b).elim
            · exact he
            · refine (hne (rep_canon h hlo ⟨hhi.there, fun a => ?_⟩)).elim
              rw [hhi.says, ← hh', ← hh', sem_up h.inv (by rw [nd_lvl hd]; omega), sem_up h.inv (by rw [nd_lvl hd]; omega)]
          have e1 : (d.lo : Int) = lo := canon h _ _ (by have := (lev_of h.inv hd).1; omega) hlo.there fun a => by rw [sem_lo h.inv hd, hh', hlo.says, hl]
          have e2 : (d.hi : Int) = hi := canon h _ _ (by have := (lev_of h.inv hd).2; omega) hhi.there fun a => by rw [sem_hi h.inv hd, hh', hhi.says, hl]
          obtain ⟨l, x, y⟩ := d
          simp only at hl e1 e2
          have : (⟨l, x, y⟩ : Nd) = ⟨k, lo.toNat, hi.toNat⟩ := by
            congr 1
            · omega
            · omega
          rw [this] at hs
          exact findA_none.1 hf i hs
      · rename_i hroom
        show Made n room A (putA A ⟨k, lo.toNat, hi.toNat⟩) F (((freeA A + 2 : Nat) : Int)) 0
        have hinv : ArInv (putA A ⟨k, lo.toNat, hi.toNat⟩) := inv_put h.inv hf (by simp only [elo]; exact h1) (by simp only [ehi]; exact h2)
        have hfs : slot (putA A ⟨k, lo.toNat, hi.toNat⟩) (freeA A) = some ⟨k, lo.toNat, hi.toNat⟩ := by rw [slot_put, if_pos rfl]
        have hrep := rep_of _ (freeA A) hinv ext_put hfs
        refine ⟨ext_put, ⟨hinv, fun i d hs => ?_, fun i d hs => ?_⟩, ?_, fun i d hs hn' => ?_, .inl ⟨rfl, ?_⟩⟩
        · rw [slot_put] at hs
          split at hs
          · injection hs with hs; subst hs; exact hk
          · exact h.lt i d hs
        · rw [slot_put] at hs
          split at hs
          · injection hs with hs; subst hs
            intro e
            simp only at e
            omega
          · exact h.ne i d hs
        · rw [putA_length]
          split
          · rename_i hfl
            have : liveA A = A.length := by
              unfold liveA
              rw [List.countP_eq_length]
              intro x hx
              obtain ⟨i, hi, rfl⟩ := List.getElem_of_mem hx
              obtain ⟨d, hd⟩ := slot_before (A := A) (i := i) (by omega)
              have := slot_get hi
              rw [List.getElem?_eq_getElem hi] at this
              injection this with this
              rw [this, hd]; rfl
            omega
          · omega
        · rw [slot_put] at hs
          split at hs
          · rename_i he
            subst he
            injection hs with hs; subst hs
            exact ⟨fun _ => false, fun b => by rw [hrep.says, indep_mix hF]⟩
          · rw [hs] at hn'; cases hn'
        · rwa [show (((freeA A + 2 : Nat) : Int)) = (freeA A : Int) + 2 by omega]
/-- Two things, then the node of both. -/
theorem made_both {n : Nat} {room : Int} {A A1 A2 : Ar} (hA : BInv n A) {k : Nat} (hk : k < n) (hn : n ≤ 23) {F : Fn} (hF : ∀ j, j < k → Indep F j) {lo hi : Int} (h1 : Made n room A A1 (fun b => F (upA b k false)) lo 0) (h2 : Made n room A1 A2 (fun b => F (upA b k true)) hi 0) :
    Made n room A (nodeA room A2 k lo hi).1 F (nodeA room A2 k lo hi).2.1 (nodeA room A2 k lo hi).2.2 := by
  have hlo := h1.ok.ext h1.inv.inv h2.inv.inv h2.ext
  have h3 := made_node (room := room) h2.inv hk hn hF hlo h2.ok
  generalize nodeA room A2 k lo hi = r at h3
  obtain ⟨A3, id, e⟩ := r
  refine ⟨(h1.ext.trans h2.ext).trans h3.ext, h3.inv, ?_, fun i d hs hn' => ?_, h3.res⟩
  · have := h1.len; have := h2.len; have := h3.len; simp only at *; omega
  · simp only at h3 hs
    cases e2 : slot A2 i with
    | none => exact h3.need i d hs e2
    | some d2 =>
      have hd2 : d2 = d := by have := h3.ext i d2 e2; rw [hs] at this; injection this with this; exact this.symm
      subst hd2
      cases e1 : slot A1 i with
      | none => exact (needed_up h2.inv hF e2 (h2.need i d2 e2 e1)).ext h2.inv.inv h3.inv.inv h3.ext e2
      | some d1 =>
        have hd1 : d1 = d2 := by have := h2.ext i d1 e1; rw [e2] at this; injection this with this; exact this.symm
        subst hd1
        exact (needed_up h1.inv hF e1 (h1.need i d1 e1 hn')).ext h1.inv.inv h3.inv.inv (h2.ext.trans h3.ext) e1
/-- The first of two fails. -/
theorem made_lo {n : Nat} {room : Int} {A A1 : Ar} {k : Nat} {F : Fn} (hF : ∀ j, j < k → Indep F j) {v : Bool} {lo e : Int} (h1 : Made n room A A1 (fun b => F (upA b k v)) lo e) (he : e ≠ 0) : Made n room A A1 F 0 e := by
  refine ⟨h1.ext, h1.inv, h1.len, fun i d hs hn => needed_up h1.inv hF hs (h1.need i d hs hn), ?_⟩
  rcases h1.res with ⟨h, _⟩ | ⟨h, _, hr, hl⟩
  · exact absurd h he
  · exact .inr ⟨h, rfl, hr, lack_up hF hl⟩
/-- The second of two fails. -/
theorem made_hi {n : Nat} {room : Int} {A A1 A2 : Ar} {k : Nat} {F : Fn} (hF : ∀ j, j < k → Indep F j) {lo hi e : Int} (h1 : Made n room A A1 (fun b => F (upA b k false)) lo 0) (h2 : Made n room A1 A2 (fun b => F (upA b k true)) hi e) (he : e ≠ 0) : Made n room A A2 F 0 e := by
  have h3 := made_lo hF h2 he
  refine ⟨h1.ext.trans h2.ext, h2.inv, ?_, fun i d hs hn => ?_, h3.res⟩
  · have := h1.len; have := h2.len; omega
  · cases e1 : slot A1 i with
    | none => exact h3.need i d hs e1
    | some d1 =>
      have hd1 : d1 = d := by have := h2.ext i d1 e1; rw [hs] at this; injection this with this; exact this.symm
      subst hd1
      exact (needed_up h1.inv hF e1 (h1.need i d1 e1 hn)).ext h1.inv.inv h2.inv.inv h2.ext e1
end Go.Dk
end

section
/- Decision diagrams: how many nodes a set needs, and how many are made. Plain Lean. -/
namespace Go.Dk

theorem len_subG {α : Type} [DecidableEq α] : ∀ {a b : List α}, a.Nodup → (∀ k ∈ a, k ∈ b) → a.length ≤ b.length
  | [], b, _, _ => Nat.zero_le _
  | k :: a, b, ha, h => by
    obtain ⟨hk, ha'⟩ := List.nodup_cons.1 ha
    have hb : k ∈ b := h k (.head _)
    have hlt := len_subG (b := b.erase k) ha' fun x hx => (List.mem_erase_of_ne (fun (e : x = k) => hk (by rw [← e]; exact hx))).2 (h x (.tail _ hx))
    rw [List.length_erase_of_mem hb] at hlt
    have := List.length_pos_of_mem hb
    simp only [List.length_cons]; omega
theorem nodup_mapOn {α β : Type} {f : α → β} : ∀ {l : List α}, l.Nodup → (∀ x ∈ l, ∀ y ∈ l, f x = f y → x = y) → (l.map f).Nodup
  | [], _, _ => .nil
  | x :: l, hn, h => by
    obtain ⟨h1, h2⟩ := List.nodup_cons.1 hn
    rw [List.map_cons, List.nodup_cons]
    refine ⟨fun hm => ?_, nodup_mapOn h2 fun a ha b hb => h a (.tail _ ha) b (.tail _ hb)⟩
    obtain ⟨y, hy, he⟩ := List.mem_map.1 hm
    have := h y (.tail _ hy) x (.head _) he
    subst this
    exact h1 hy

/-- What hangs on the levels below n alone. -/
def Low (n : Nat) (F : Fn) : Prop := ∀ a b : Asg, (∀ j, j < n → a j = b j) → F a = F b
theorem sem_low {n : Nat} {A : Ar} (h : BInv n A) (id : Int) : Low n (sem A id) := by
  intro a b hab
  have : ∀ id, sem A id a = sem A id b := by
    refine lvl_induct h.inv (fun id hd => ?_) (fun id d hd ih1 ih2 => ?_)
    · rw [sem_none hd, sem_none hd]
    · obtain ⟨i, _, hs⟩ := nd_place hd
      rw [sem_node h.inv hd, sem_node h.inv hd, hab d.l (h.lt i d hs)]
      split
      · exact ih2
      · exact ih1
  exact this id
theorem Low.indep {n : Nat} {F : Fn} (h : Low n F) {k : Nat} (hk : n ≤ k) : Indep F k := fun a b => h _ _ fun j hj => upA_ne a b (by omega)
theorem Low.mix {n : Nat} {F : Fn} (h : Low n F) (k : Nat) (a : Asg) : Low n fun b => F (mixA k a b) := fun b c hbc => h _ _ fun j hj => by
  unfold mixA; split
  · rfl
  · exact hbc j hj
theorem mix_indep {F : Fn} {k : Nat} (a : Asg) {j : Nat} (hj : j < k) : Indep (fun b => F (mixA k a b)) j := fun b x => by
  show F (mixA k a (upA b j x)) = F (mixA k a b)
  rw [mixA_up_lt hj]

/-! ### Rows -/
def shA (k w : Nat) : Asg := fun j => w.testBit (j - k)
def rowF (n k : Nat) (F : Fn) : List Bool := (List.range (2 ^ (n - k))).map fun w => F (shA k w)
def turnsB (r : List Bool) : Bool := (List.range (r.length / 2)).any fun t => r.getD (2 * t) false != r.getD (2 * t + 1) false
theorem rowF_length (n k : Nat) (F : Fn) : (rowF n k F).length = 2 ^ (n - k) := by simp [rowF]
theorem rowF_get {n k : Nat} {F : Fn} {w : Nat} (hw : w < 2 ^ (n - k)) : (rowF n k F).getD w false = F (shA k w) := by
  unfold rowF
  rw [List.getD_eq_getElem?_getD, List.getElem?_map, List.getElem?_range hw]; rfl
theorem row_at {n k : Nat} {F : Fn} (hF : Low n F) (hi : ∀ j, j < k → Indep F j) (b : Asg) : F b = F (shA k (mkSet (fun t => b (t + k)) (n - k))) := by
  have h1 : F b = F (mixA k b (shA k (mkSet (fun t => b (t + k)) (n - k)))) := hF _ _ fun j hj => by
    unfold mixA shA
    split
    · rfl
    · rename_i hjk
      rw [testBit_mkSet, decide_eq_true (by omega), Bool.true_and, show j - k + k = j by omega]
  rw [h1, indep_mix hi]
theorem row_fn {n k : Nat} {F G : Fn} (hF : Low n F) (hG : Low n G) (hiF : ∀ j, j < k → Indep F j) (hiG : ∀ j, j < k → Indep G j) (h : rowF n k F = rowF n k G) (b : Asg) : F b = G b := by
  have e1 := rowF_get (n := n) (k := k) (F := F) (w := mkSet (fun t => b (t + k)) (n - k)) (mkSet_lt _ _)
  have e2 := rowF_get (n := n) (k := k) (F := G) (w := mkSet (fun t => b (t + k)) (n - k)) (mkSet_lt _ _)
  rw [row_at hF hiF b, row_at hG hiG b, ← e1, ← e2, h]
theorem rowF_congr {n k : Nat} {F G : Fn} (h : ∀ b, F b = G b) : rowF n k F = rowF n k G := by
  have : F = G := funext h
  rw [this]
theorem turns_iff {n k : Nat} {F : Fn} (hF : Low n F) (hi : ∀ j, j < k → Indep F j) (hk : k < n) : turnsB (rowF n k F) = true ↔ ¬ Indep F k := by
  have hp : 2 ^ (n - k) = 2 * 2 ^ (n - k - 1) := by rw [← Nat.pow_succ']; congr 1; omega
  have hodd : ∀ t b : Nat, (b = 0 ∨ b = 1) → F (shA k (2 * t + b)) = F (upA (shA k (2 * t)) k (b == 1)) := fun t b hb => by
    have e1 := indep_mix hi (fun _ => false) (shA k (2 * t + b))
    have e2 := indep_mix hi (fun _ => false) (upA (shA k (2 * t)) k (b == 1))
    rw [← e1, ← e2]
    congr 1
    funext j
    unfold mixA
    split
    · rfl
    · rename_i hjk
      unfold shA upA
      by_cases hj : j = k
      · subst hj
        rw [if_pos rfl, Nat.sub_self, Nat.testBit_zero]
        rcases hb with rfl | rfl
        · simp
        · simp
      · rw [if_neg hj]
        obtain ⟨m, hm⟩ : ∃ m, j - k = m + 1 := ⟨j - k - 1, by omega⟩
        show (2 * t + b).testBit (j - k) = (2 * t).testBit (j - k)
        rw [hm, Nat.testBit_succ, Nat.testBit_succ]
        congr 1
        rcases hb with rfl | rfl <;> omega
  unfold turnsB
  rw [rowF_length, List.any_eq_true]
  constructor
  · rintro ⟨t, ht, hne⟩ hin
    have ht' := List.mem_range.1 ht
    rw [rowF_get (by omega), rowF_get (by omega), hodd t 1 (.inr rfl), hin] at hne
    simp at hne
  · intro hn
    refine Classical.byContradiction fun hno => hn ?_
    have key : ∀ a : Asg, F (upA a k false) = F (upA a k true) := fun a => by
      have ht : mkSet (fun t => a (t + k + 1)) (n - k - 1) < 2 ^ (n - k - 1) := mkSet_lt _ _
      have hb : ∀ v : Bool, F (upA a k v) = F (shA k (2 * mkSet (fun t => a (t + k + 1)) (n - k - 1) + v.toNat)) := fun v => by
        rw [row_at hF hi]
        congr 2
        refine Nat.eq_of_testBit_eq fun i => ?_
        rw [testBit_mkSet]
        cases i with
        | zero =>
          rw [decide_eq_true (by omega), Bool.true_and, Nat.zero_add, upA_same, Nat.testBit_zero]
          cases v <;> simp
        | succ i =>
          rw [Nat.testBit_succ, show (2 * mkSet (fun t => a (t + k + 1)) (n - k - 1) + v.toNat) / 2 = mkSet (fun t => a (t + k + 1)) (n - k - 1) by cases v <;> simp <;> omega, testBit_mkSet,
            upA_ne a v (by omega), show i + 1 + k = i + k + 1 by omega]
          congr 1
          exact decide_eq_decide.2 (by omega)
      generalize mkSet (fun t => a (t + k + 1)) (n - k - 1) = t at ht hb
      have hnt : ¬ ((rowF n k F).getD (2 * t) false != (rowF n k F).getD (2 * t + 1) false) = true := fun h => hno ⟨t, List.mem_range.2 (by omega), h⟩
      rw [rowF_get (by omega), rowF_get (by omega)] at hnt
      rw [hb false, hb true]
      simpa using hnt
    intro a x
    have h0 : ∀ v, F (upA a k v) = F (upA a k true) := fun v => by cases v; exact key a; rfl
    rw [h0 x, ← h0 (a k), upA_self]

/-! ### Sets as functions of levels -/
structure OrdO (o : List Nat) : Prop where
  nodup : o.Nodup
  lt : ∀ i ∈ o, i < o.length
  le : o.length ≤ 8
theorem OrdO.mem {o : List Nat} (h : OrdO o) {i : Nat} (hi : i < o.length) : i ∈ o := by
  refine Classical.byContradiction fun hn => ?_
  have h1 := len_subG (a := i :: o) (b := List.range o.length) (List.nodup_cons.2 ⟨hn, h.nodup⟩) fun k hk => by
    rcases List.mem_cons.1 hk with rfl | hk
    · exact List.mem_range.2 hi
    · exact List.mem_range.2 (h.lt k hk)
  simp at h1
  omega
theorem OrdO.idx_lt {o : List Nat} (h : OrdO o) {i : Nat} (hi : i < o.length) : o.idxOf i < o.length := List.idxOf_lt_length_iff.2 (h.mem hi)
theorem OrdO.get_idx {o : List Nat} (h : OrdO o) {i : Nat} (hi : i < o.length) : o.getD (o.idxOf i) 0 = i := by
  rw [List.getD_eq_getElem?_getD, List.getElem?_eq_getElem (h.idx_lt hi)]
  exact List.getElem_idxOf (h.idx_lt hi)
theorem OrdO.get_lt {o : List Nat} (h : OrdO o) {k : Nat} (hk : k < o.length) : o.getD k 0 < o.length := by
  rw [List.getD_eq_getElem?_getD, List.getElem?_eq_getElem hk]
  exact h.lt _ (List.getElem_mem hk)
theorem OrdO.inj {o : List Nat} (h : OrdO o) {j k : Nat} (hj : j < o.length) (hk : k < o.length) (he : o.getD j 0 = o.getD k 0) : j = k := by
  rw [List.getD_eq_getElem?_getD, List.getElem?_eq_getElem hj, List.getD_eq_getElem?_getD, List.getElem?_eq_getElem hk] at he
  refine (List.getElem?_inj hj h.nodup).1 ?_
  rw [List.getElem?_eq_getElem hj, List.getElem?_eq_getElem hk]
  exact congrArg some he
theorem OrdO.idx_get {o : List Nat} (h : OrdO o) {k : Nat} (hk : k < o.length) : o.idxOf (o.getD k 0) = k :=
  h.inj (h.idx_lt (h.get_lt hk)) hk (h.get_idx (h.get_lt hk))
/-- The point of levels that are turned. -/
def ptA (o : List Nat) (a : Asg) : Nat := mkSet (fun i => a (o.idxOf i)) o.length
def asgP (o : List Nat) (p : Nat) : Asg := fun k => decide (k < o.length) && p.testBit (o.getD k 0)
theorem ptA_lt (o : List Nat) (a : Asg) : ptA o a < 2 ^ o.length := mkSet_lt _ _
theorem testBit_ptA {o : List Nat} (a : Asg) {i : Nat} (hi : i < o.length) : (ptA o a).testBit i = a (o.idxOf i) := by
  unfold ptA; rw [testBit_mkSet, decide_eq_true hi, Bool.true_and]
theorem pt_asg {o : List Nat} (h : OrdO o) {p : Nat} (hp : p < 2 ^ o.length) : ptA o (asgP o p) = p := by
  refine Nat.eq_of_testBit_eq fun i => ?_
  by_cases hi : i < o.length
  · rw [testBit_ptA _ hi]
    unfold asgP
    rw [decide_eq_true (h.idx_lt hi), Bool.true_and, h.get_idx hi]
  · rw [Nat.testBit_lt_two_pow (Nat.lt_of_lt_of_le (ptA_lt _ _) (Nat.pow_le_pow_right (by decide) (by omega))), Nat.testBit_lt_two_pow (Nat.lt_of_lt_of_le hp (Nat.pow_le_pow_right (by decide) (by omega)))]
theorem asg_pt {o : List Nat} (h : OrdO o) (a : Asg) {k : Nat} (hk : k < o.length) : asgP o (ptA o a) k = a k := by
  unfold asgP
  rw [decide_eq_true hk, Bool.true_and, testBit_ptA _ (h.get_lt hk), h.idx_get hk]
theorem ptA_congr {o : List Nat} (h : OrdO o) {a b : Asg} (hab : ∀ k, k < o.length → a k = b k) : ptA o a = ptA o b := by
  refine Nat.eq_of_testBit_eq fun i => ?_
  unfold ptA
  rw [testBit_mkSet, testBit_mkSet]
  by_cases hi : i < o.length
  · rw [hab _ (h.idx_lt hi)]
  · rw [decide_eq_false hi]; rfl
/-- What a set says of levels. -/
def FnS (o : List Nat) (s : Nat) : Fn := fun a => s.testBit (ptA o a)
theorem FnS_low {o : List Nat} (h : OrdO o) (s : Nat) : Low o.length (FnS o s) := fun a b hab => by unfold FnS; rw [ptA_congr h hab]
/-- The set that an id says. -/
def setD (o : List Nat) (A : Ar) (id : Int) : Nat := setOf fun p => decide (p < 2 ^ o.length) && sem A id (asgP o p)
theorem setD_lt (o : List Nat) (A : Ar) (id : Int) : setD o A id < 2 ^ 256 := setOf_lt _
theorem pow_le_256 {n : Nat} (h : n ≤ 8) : 2 ^ n ≤ 256 := Nat.pow_le_pow_right (n := 2) (by decide) h
theorem setD_rep {o : List Nat} (h : OrdO o) {A : Ar} {id : Int} {F : Fn} (hr : Rep A id F) {s : Nat} (hs : s < 2 ^ 256) (hw : ∀ p, s.testBit p = true → p < 2 ^ o.length) (hF : ∀ p, p < 2 ^ o.length → F (asgP o p) = s.testBit p) : setD o A id = s := by
  refine set_ext (setOf_lt _) hs fun p hp => ?_
  unfold setD
  rw [testBit_setOf, decide_eq_true hp, Bool.true_and]
  by_cases hpn : p < 2 ^ o.length
  · rw [decide_eq_true hpn, Bool.true_and, hr.says, hF p hpn]
  · rw [decide_eq_false hpn, Bool.false_and]
    symm
    rw [Bool.eq_false_iff]
    exact fun hh => hpn (hw p hh)
theorem FnS_asg {o : List Nat} (h : OrdO o) (s : Nat) {p : Nat} (hp : p < 2 ^ o.length) : FnS o s (asgP o p) = s.testBit p := by unfold FnS; rw [pt_asg h hp]
theorem FnS_inj {o : List Nat} (h : OrdO o) {s t : Nat} (hs : s < 2 ^ 256) (ht : t < 2 ^ 256) (hsw : ∀ p, s.testBit p = true → p < 2 ^ o.length) (htw : ∀ p, t.testBit p = true → p < 2 ^ o.length) (he : ∀ a, FnS o s a = FnS o t a) : s = t := by
  refine set_ext hs ht fun p hp => ?_
  by_cases hpn : p < 2 ^ o.length
  · rw [← FnS_asg h s hpn, ← FnS_asg h t hpn, he]
  · rw [Bool.eq_false_iff.2 fun hh => hpn (hsw p hh), Bool.eq_false_iff.2 fun hh => hpn (htw p hh)]

/-! ### How many nodes are needed -/
def rowS (o : List Nat) (s k ahead : Nat) : List Bool := rowF o.length k fun b => FnS o s (mixA k (fun j => ahead.testBit j) b)
/-- Rows met, each once, that turn. -/
def metTo (o : List Nat) (s k : Nat) : Nat → List (List Bool)
  | 0 => []
  | m + 1 => if turnsB (rowS o s k m) && !(metTo o s k m).contains (rowS o s k m) then metTo o s k m ++ [rowS o s k m] else metTo o s k m
def metS (o : List Nat) (s k : Nat) : List (List Bool) := metTo o s k (2 ^ k)
def sizeTo (o : List Nat) (s : Nat) : Nat → Nat
  | 0 => 0
  | k + 1 => sizeTo o s k + (metS o s k).length
def sizeS (o : List Nat) (s : Nat) : Nat := sizeTo o s o.length
theorem mem_metTo {o : List Nat} {s k : Nat} {r : List Bool} : ∀ {m : Nat}, r ∈ metTo o s k m ↔ ∃ x, x < m ∧ r = rowS o s k x ∧ turnsB r = true
  | 0 => by simp [metTo]
  | m + 1 => by
    unfold metTo
    have ih := mem_metTo (o := o) (s := s) (k := k) (r := r) (m := m)
    split
    · rename_i hc
      simp only [Bool.and_eq_true] at hc
      rw [List.mem_append, ih, List.mem_singleton]
      constructor
      · rintro (⟨x, hx, h1, h2⟩ | rfl)
        · exact ⟨x, by omega, h1, h2⟩
        · exact ⟨m, by omega, rfl, hc.1⟩
      · rintro ⟨x, hx, h1, h2⟩
        rcases Nat.lt_or_ge x m with hlt | hge
        · exact .inl ⟨x, hlt, h1, h2⟩
        · obtain rfl : x = m := by omega
          exact .inr h1
    · rename_i hc
      rw [ih]
      constructor
      · rintro ⟨x, hx, h1, h2⟩; exact ⟨x, by omega, h1, h2⟩
      · rintro ⟨x, hx, h1, h2⟩
        rcases Nat.lt_or_ge x m with hlt | hge
        · exact ⟨x, hlt, h1, h2⟩
        · obtain rfl : x = m := by omega
          subst h1
          rw [h2, Bool.true_and] at hc
          have hcon : (metTo o s k x).contains (rowS o s k x) = true := by simpa using hc
          rw [List.contains_iff_mem] at hcon
          have := (mem_metTo (o := o) (s := s) (k := k) (m := x)).1 hcon
          exact this
theorem metTo_nodup (o : List Nat) (s k : Nat) : ∀ m, (metTo o s k m).Nodup
  | 0 => .nil
  | m + 1 => by
    unfold metTo
    split
    · rename_i hc
      simp only [Bool.and_eq_true, Bool.not_eq_true'] at hc
      refine List.nodup_append.2 ⟨metTo_nodup o s k m, List.nodup_cons.2 ⟨by simp, .nil⟩, fun a ha b hb e => ?_⟩
      obtain rfl := List.mem_singleton.1 hb
      subst e
      have := List.contains_iff_mem.2 ha
      rw [hc.2] at this; cases this
    · exact metTo_nodup o s k m
/-- All places, with their rows. -/
def needL (o : List Nat) (s : Nat) : Nat → List (Nat × List Bool)
  | 0 => []
  | k + 1 => needL o s k ++ (metS o s k).map fun r => (k, r)
theorem needL_length (o : List Nat) (s : Nat) : ∀ k, (needL o s k).length = sizeTo o s k
  | 0 => rfl
  | k + 1 => by unfold needL sizeTo; rw [List.length_append, List.length_map, needL_length o s k]
theorem mem_needL {o : List Nat} {s : Nat} {k : Nat} {r : List Bool} : ∀ {m : Nat}, (k, r) ∈ needL o s m ↔ k < m ∧ r ∈ metS o s k
  | 0 => by simp [needL]
  | m + 1 => by
    unfold needL
    rw [List.mem_append, mem_needL (m := m), List.mem_map]
    constructor
    · rintro (⟨h1, h2⟩ | ⟨r', h1, h2⟩)
      · exact ⟨by omega, h2⟩
      · injection h2 with e1 e2
        subst e1; subst e2
        exact ⟨by omega, h1⟩
    · rintro ⟨h1, h2⟩
      rcases Nat.lt_or_ge k m with hlt | hge
      · exact .inl ⟨hlt, h2⟩
      · obtain rfl : k = m := by omega
        exact .inr ⟨r, h2, rfl⟩
theorem needL_nodup (o : List Nat) (s : Nat) : ∀ k, (needL o s k).Nodup
  | 0 => .nil
  | k + 1 => by
    unfold needL
    refine List.nodup_append.2 ⟨needL_nodup o s k, nodup_mapOn (metTo_nodup o s k _) fun a _ b _ e => by injection e, fun a ha b hb e => ?_⟩
    obtain ⟨r, _, rfl⟩ := List.mem_map.1 hb
    subst e
    have := (mem_needL.1 ha).1
    omega
/-- A node's place and row. -/
def codeN (n : Nat) (A : Ar) (i : Nat) : Nat × List Bool := match slot A i with | some d => (d.l, rowF n d.l (sem A ((i : Int) + 2))) | none => (0, [])
theorem code_some {n : Nat} {A : Ar} {i : Nat} {d : Nd} (h : slot A i = some d) : codeN n A i = (d.l, rowF n d.l (sem A ((i : Int) + 2))) := by unfold codeN; rw [h]
theorem sem_below {A : Ar} (h : ArInv A) {i : Nat} {d : Nd} (hs : slot A i = some d) {j : Nat} (hj : j < d.l) : Indep (sem A ((i : Int) + 2)) j :=
  fun a b => sem_up h (by rw [lvlA_slot hs]; omega) a b
theorem code_inj {n : Nat} {A : Ar} (h : BInv n A) {i j : Nat} {d d' : Nd} (hi : slot A i = some d) (hj : slot A j = some d') (he : codeN n A i = codeN n A j) : i = j := by
  rw [code_some hi, code_some hj] at he
  injection he with e1 e2
  rw [← e1] at e2
  have := canon h ((i : Int) + 2) ((j : Int) + 2) (by rw [lvlA_slot hi]; omega) (by rw [lvlA_slot hj]; omega)
    (row_fn (sem_low h _) (sem_low h _) (fun k hk => sem_below h.inv hi hk) (fun k hk => sem_below h.inv hj (by omega)) e2)
  omega
/-- A row of a set, by any levels ahead. -/
theorem rowS_of (o : List Nat) (s k : Nat) (a : Asg) : rowS o s k (mkSet a k) = rowF o.length k fun b => FnS o s (mixA k a b) := by
  unfold rowS
  refine rowF_congr fun b => ?_
  congr 1
  funext j
  unfold mixA
  split
  · rename_i hj
    show (mkSet a k).testBit j = a j
    rw [testBit_mkSet, decide_eq_true hj, Bool.true_and]
  · rfl
theorem need_mem {o : List Nat} (ho : OrdO o) {s k : Nat} (hk : k < o.length) (a : Asg) (ht : ¬ Indep (fun b => FnS o s (mixA k a b)) k) : (k, rowF o.length k fun b => FnS o s (mixA k a b)) ∈ needL o s o.length := by
  refine mem_needL.2 ⟨hk, mem_metTo.2 ⟨mkSet a k, mkSet_lt _ _, (rowS_of o s k a).symm, ?_⟩⟩
  exact (turns_iff ((FnS_low ho s).mix k a) (fun j hj => mix_indep a hj) hk).2 ht
theorem needed_code {o : List Nat} (ho : OrdO o) {A : Ar} (h : BInv o.length A) {s : Nat} {i : Nat} {d : Nd} (hs : slot A i = some d) (hn : Needed A (FnS o s) i d) : codeN o.length A i ∈ needL o s o.length := by
  obtain ⟨a, ha⟩ := hn
  rw [code_some hs, rowF_congr ha]
  refine need_mem ho (h.lt i d hs) a fun hi => dep_node h (id := (i : Int) + 2) (by rw [nd_slot]; exact hs) fun b x => ?_
  rw [ha, ha]; exact hi b x
/-- Nodes that are needed are no more than the set needs. -/
theorem needed_count {o : List Nat} (ho : OrdO o) {A : Ar} (h : BInv o.length A) {s : Nat} {P : List Nat} (hP : P.Nodup) (hn : ∀ i ∈ P, ∃ d, slot A i = some d ∧ Needed A (FnS o s) i d) : P.length ≤ sizeS o s := by
  have := len_subG (a := P.map (codeN o.length A)) (b := needL o s o.length) (nodup_mapOn hP fun x hx y hy e => by
    obtain ⟨d, hd, _⟩ := hn x hx
    obtain ⟨d', hd', _⟩ := hn y hy
    exact code_inj h hd hd' e) fun c hc => by
    obtain ⟨i, hi, rfl⟩ := List.mem_map.1 hc
    obtain ⟨d, hd, hnd⟩ := hn i hi
    exact needed_code ho h hd hnd
  rw [List.length_map, needL_length] at this
  exact this
theorem lack_count {o : List Nat} (ho : OrdO o) {A : Ar} (h : BInv o.length A) {s : Nat} {P : List Nat} (hP : P.Nodup) (hn : ∀ i ∈ P, ∃ d, slot A i = some d ∧ Needed A (FnS o s) i d) (hl : Lack A (FnS o s)) : P.length < sizeS o s := by
  obtain ⟨k, a, ht, hno⟩ := hl
  have hk : k < o.length := Nat.lt_of_not_le fun hle => ht (((FnS_low ho s).mix k a).indep hle)
  have := len_subG (a := (k, rowF o.length k fun b => FnS o s (mixA k a b)) :: P.map (codeN o.length A)) (b := needL o s o.length) (List.nodup_cons.2 ⟨fun hm => by
      obtain ⟨i, hi, he⟩ := List.mem_map.1 hm
      obtain ⟨d, hd, _⟩ := hn i hi
      rw [code_some hd] at he
      injection he with e1 e2
      rw [e1] at e2
      exact hno i d hd (row_fn (sem_low h _) ((FnS_low ho s).mix k a) (fun j hj => sem_below h.inv hd (by omega)) (fun j hj => mix_indep a hj) e2), nodup_mapOn hP fun x hx y hy e => by
      obtain ⟨d, hd, _⟩ := hn x hx
      obtain ⟨d', hd', _⟩ := hn y hy
      exact code_inj h hd hd' e⟩) fun c hc => by
    rcases List.mem_cons.1 hc with rfl | hc
    · exact need_mem ho hk a ht
    · obtain ⟨i, hi, rfl⟩ := List.mem_map.1 hc
      obtain ⟨d, hd, hnd⟩ := hn i hi
      exact needed_code ho h hd hnd
  rw [List.length_cons, List.length_map, needL_length] at this
  exact this
/-- What is come to is needed. -/
theorem reach_needed {n : Nat} {A : Ar} (h : BInv n A) {id : Int} {x : Nat} (hr : Rch A id x) : ∃ d, slot A x = some d ∧ Needed A (sem A id) x d := by
  have self : ∀ (i : Nat) (d : Nd), slot A i = some d → Needed A (sem A ((i : Int) + 2)) i d := fun i d hs =>
    ⟨fun _ => false, fun b => (indep_mix (fun j hj => sem_below h.inv hs hj) _ b).symm⟩
  induction hr with
  | self hs => exact ⟨_, hs, self _ _ hs⟩
  | @lo i x d hs _ ih =>
    obtain ⟨d', hd', hn⟩ := ih
    refine ⟨d', hd', needed_up h (k := d.l) (v := false) (fun j hj => sem_below h.inv hs hj) hd' ?_⟩
    obtain ⟨a, ha⟩ := hn
    exact ⟨a, fun b => by rw [ha b, sem_lo h.inv (id := (i : Int) + 2) (by rw [nd_slot]; exact hs)]⟩
  | @hi i x d hs _ ih =>
    obtain ⟨d', hd', hn⟩ := ih
    refine ⟨d', hd', needed_up h (k := d.l) (v := true) (fun j hj => sem_below h.inv hs hj) hd' ?_⟩
    obtain ⟨a, ha⟩ := hn
    exact ⟨a, fun b => by rw [ha b, sem_hi h.inv (id := (i : Int) + 2) (by rw [nd_slot]; exact hs)]⟩
/-- What an id needs is come to. -/
theorem needed_reach {n : Nat} {A : Ar} (h : BInv n A) {k : Nat} (a : Asg) : ∀ id : Int, ¬ Indep (fun b => sem A id (mixA k a b)) k →
    ∃ i d, Rch A id i ∧ slot A i = some d ∧ d.l = k ∧ ∀ b, sem A ((i : Int) + 2) b = sem A id (mixA k a b) := by
  refine lvl_induct h.inv (fun id hd ht => (ht fun b x => by show sem A id _ = sem A id _; rw [sem_none hd, sem_none hd]).elim) (fun id d hd ih1 ih2 ht => ?_)
  obtain ⟨i, rfl, hs⟩ := nd_place hd
  have hlev := lev_of h.inv hd
  rcases Nat.lt_trichotomy d.l k with hlt | he | hgt
  · have hstep : ∀ b, sem A ((i : Int) + 2) (mixA k a b) = sem A (if a d.l then (d.hi : Int) else (d.lo : Int)) (mixA k a b) := fun b => by
      rw [sem_node h.inv hd]
      have : mixA k a b d.l = a d.l := by unfold mixA; rw [if_pos hlt]
      rw [this]
    have hf : (fun b => sem A ((i : Int) + 2) (mixA k a b)) = fun b => sem A (if a d.l then (d.hi : Int) else (d.lo : Int)) (mixA k a b) := funext hstep
    rw [hf] at ht
    cases hal : a d.l with
    | true =>
      simp only [hal, if_true] at ht hstep
      obtain ⟨j, d', h1, h2, h3, h4⟩ := ih2 ht
      exact ⟨j, d', .hi hs h1, h2, h3, fun b => by rw [h4, hstep]⟩
    | false =>
      simp only [hal, Bool.false_eq_true, if_false] at ht hstep
      obtain ⟨j, d', h1, h2, h3, h4⟩ := ih1 ht
      exact ⟨j, d', .lo hs h1, h2, h3, fun b => by rw [h4, hstep]⟩
  · exact ⟨i, d, .self hs, hs, he, fun b => (indep_mix (fun j hj => sem_below h.inv hs (by omega)) a b).symm⟩
  · refine (ht fun b x => ?_).elim
    show sem A ((i : Int) + 2) (mixA k a (upA b k x)) = sem A ((i : Int) + 2) (mixA k a b)
    rw [indep_mix (fun j hj => sem_below h.inv hs (by omega)), indep_mix (fun j hj => sem_below h.inv hs (by omega))]
    exact sem_below h.inv hs hgt b x
/-- What is come to from a set's id is as much as the set needs. -/
theorem reach_count {o : List Nat} (ho : OrdO o) {A : Ar} (h : BInv o.length A) {s : Nat} {id : Int} (hr : Rep A id (FnS o s)) {P : List Nat} (hP : P.Nodup) (hm : ∀ x, x ∈ P ↔ Rch A id x) : P.length = sizeS o s := by
  have hf : sem A id = FnS o s := funext hr.says
  refine Nat.le_antisymm (needed_count ho h hP fun i hi => ?_) ?_
  · have := reach_needed h ((hm i).1 hi)
    rwa [hf] at this
  · have := len_subG (a := needL o s o.length) (b := P.map (codeN o.length A)) (needL_nodup o s _) fun c hc => by
      obtain ⟨k, r⟩ := c
      obtain ⟨hk, hr'⟩ := mem_needL.1 hc
      obtain ⟨x, _, he, ht⟩ := mem_metTo.1 hr'
      subst he
      have ht' := (turns_iff ((FnS_low ho s).mix k _) (fun j hj => mix_indep _ hj) hk).1 ht
      rw [← hf] at ht'
      obtain ⟨i, d, h1, h2, h3, h4⟩ := needed_reach h _ id ht'
      refine List.mem_map.2 ⟨i, (hm i).2 h1, ?_⟩
      rw [code_some h2, h3]
      congr 1
      unfold rowS
      exact rowF_congr fun b => by rw [h4, hf]
    rw [List.length_map, needL_length] at this
    exact this

/-! ### How many are made -/
/-- What hangs on the levels of a list alone. -/
def Hangs (D : List Nat) (F : Fn) : Prop := ∀ a b : Asg, (∀ j ∈ D, a j = b j) → F a = F b
theorem Hangs.indep {D : List Nat} {F : Fn} (h : Hangs D F) {k : Nat} (hk : k ∉ D) : Indep F k := fun a b => h _ _ fun j hj => upA_ne a b fun e => hk (e ▸ hj)
def bel (D : List Nat) (k : Nat) : List Nat := D.filter fun j => decide (j < k)
def codeA (D : List Nat) (k : Nat) (a : Asg) : Nat := 2 ^ (bel D k).length + mkSet (fun t => a ((bel D k).getD t 0)) (bel D k).length
theorem bel_lt {D : List Nat} {k k' : Nat} (hk : k ∈ D) (h : k < k') : (bel D k).length < (bel D k').length := by
  unfold bel
  rw [← List.countP_eq_length_filter, ← List.countP_eq_length_filter]
  induction D with
  | nil => cases hk
  | cons x D ih =>
    have hmono : D.countP (fun j => decide (j < k)) ≤ D.countP fun j => decide (j < k') := List.countP_mono_left fun x _ hx => by simp only [decide_eq_true_eq] at hx ⊢; omega
    rw [List.countP_cons, List.countP_cons]
    rcases List.mem_cons.1 hk with rfl | hk
    · rw [decide_eq_false (Nat.lt_irrefl k), decide_eq_true h]; simp only [Bool.false_eq_true, if_false, if_true]; omega
    · have := ih hk
      by_cases h1 : x < k
      · rw [decide_eq_true h1, decide_eq_true (show x < k' by omega)]; simp only [if_true]; omega
      · rw [decide_eq_false h1]; simp only [Bool.false_eq_true, if_false]; split <;> omega
theorem bel_le {D : List Nat} {k : Nat} (hk : k ∈ D) : (bel D k).length < D.length := by
  have : ∀ D : List Nat, k ∈ D → (D.filter fun j => decide (j < k)).length < D.length := by
    intro D hk
    rw [List.length_filter_lt_length_iff_exists]
    exact ⟨k, hk, by simp⟩
  exact this D hk
theorem codeA_lt {D : List Nat} {k : Nat} (hk : k ∈ D) (a : Asg) : 0 < codeA D k a ∧ codeA D k a < 2 ^ D.length := by
  have h1 : mkSet (fun t => a ((bel D k).getD t 0)) (bel D k).length < 2 ^ (bel D k).length := mkSet_lt _ _
  have h2 := Nat.pow_le_pow_right (show 0 < 2 by decide) (show (bel D k).length + 1 ≤ D.length from bel_le hk)
  rw [Nat.pow_succ] at h2
  have := Nat.one_le_two_pow (n := (bel D k).length)
  unfold codeA
  omega
theorem pow_split {j j' x x' : Nat} (h1 : x < 2 ^ j) (h2 : x' < 2 ^ j') (he : 2 ^ j + x = 2 ^ j' + x') : j = j' ∧ x = x' := by
  rcases Nat.lt_trichotomy j j' with hlt | rfl | hlt
  · have := Nat.pow_le_pow_right (show 0 < 2 by decide) (show j + 1 ≤ j' from hlt)
    rw [Nat.pow_succ] at this; omega
  · exact ⟨rfl, by omega⟩
  · have := Nat.pow_le_pow_right (show 0 < 2 by decide) (show j' + 1 ≤ j from hlt)
    rw [Nat.pow_succ] at this; omega
theorem codeA_inj {D : List Nat} {k k' : Nat} (hk : k ∈ D) (hk' : k' ∈ D) {a a' : Asg} (he : codeA D k a = codeA D k' a') : k = k' ∧ ∀ j ∈ D, j < k → a j = a' j := by
  obtain ⟨e1, e2⟩ := pow_split (mkSet_lt _ _) (mkSet_lt _ _) he
  have hkk : k = k' := by
    rcases Nat.lt_trichotomy k k' with h | h | h
    · have := bel_lt hk h; omega
    · exact h
    · have := bel_lt hk' h; omega
  subst hkk
  refine ⟨rfl, fun j hj hjk => ?_⟩
  have hm : j ∈ bel D k := List.mem_filter.2 ⟨hj, by simpa using hjk⟩
  obtain ⟨t, ht, rfl⟩ := List.getElem_of_mem hm
  have := congrArg (fun m => m.testBit t) e2
  simp only [testBit_mkSet, decide_eq_true ht, Bool.true_and, List.getD_eq_getElem?_getD, List.getElem?_eq_getElem ht] at this
  exact this
/-- Nodes of one diagram that are needed for one thing, which hangs on few levels, are few. -/
theorem needed_few {n : Nat} {A : Ar} (h : BInv n A) {F : Fn} {D : List Nat} (hD : Hangs D F) {P : List Nat} (hP : P.Nodup) (hn : ∀ i ∈ P, ∃ d, slot A i = some d ∧ Needed A F i d) : P.length ≤ 2 ^ D.length - 1 := by
  classical
  have hch : ∀ i, ∃ c : Nat, i ∈ P → ∃ d a, slot A i = some d ∧ d.l ∈ D ∧ (∀ b, sem A ((i : Int) + 2) b = F (mixA d.l a b)) ∧ c = codeA D d.l a := fun i => by
    by_cases hi : i ∈ P
    · obtain ⟨d, hd, a, ha⟩ := hn i hi
      refine ⟨codeA D d.l a, fun _ => ⟨d, a, hd, ?_, ha, rfl⟩⟩
      exact Classical.byContradiction fun hno => needed_level h hd ⟨a, ha⟩ (hD.indep hno)
    · exact ⟨0, fun hh => absurd hh hi⟩
  let f : Nat → Nat := fun i => Classical.choose (hch i)
  have hf : ∀ i ∈ P, ∃ d a, slot A i = some d ∧ d.l ∈ D ∧ (∀ b, sem A ((i : Int) + 2) b = F (mixA d.l a b)) ∧ f i = codeA D d.l a := fun i hi => Classical.choose_spec (hch i) hi
  have := len_subG (a := P.map f) (b := (List.range (2 ^ D.length - 1)).map (· + 1)) (nodup_mapOn hP fun x hx y hy e => by
    obtain ⟨d, a, h1, h2, h3, h4⟩ := hf x hx
    obtain ⟨d', a', h1', h2', h3', h4'⟩ := hf y hy
    rw [h4, h4'] at e
    obtain ⟨e1, e2⟩ := codeA_inj h2 h2' e
    have := canon h ((x : Int) + 2) ((y : Int) + 2) (by rw [lvlA_slot h1]; omega) (by rw [lvlA_slot h1']; omega) fun b => by
      rw [h3, h3', ← e1]
      refine hD _ _ fun j hj => ?_
      unfold mixA
      split
      · rename_i hjk; exact e2 j hj hjk
      · rfl
    omega) fun c hc => by
    obtain ⟨i, hi, rfl⟩ := List.mem_map.1 hc
    obtain ⟨d, a, h1, h2, h3, h4⟩ := hf i hi
    have := codeA_lt h2 a
    rw [h4]
    exact List.mem_map.2 ⟨codeA D d.l a - 1, List.mem_range.2 (by omega), by omega⟩
  simpa using this
def newP (A A' : Ar) : List Nat := (List.range A'.length).filter fun i => (slot A' i).isSome && (slot A i).isNone
theorem newP_nodup (A A' : Ar) : (newP A A').Nodup := List.nodup_range.sublist List.filter_sublist
theorem mem_newP {A A' : Ar} {i : Nat} : i ∈ newP A A' ↔ (∃ d, slot A' i = some d) ∧ slot A i = none := by
  unfold newP
  rw [List.mem_filter, List.mem_range, Bool.and_eq_true, Option.isSome_iff_exists, Option.isNone_iff_eq_none]
  constructor
  · rintro ⟨_, h⟩; exact h
  · rintro ⟨⟨d, h1⟩, h2⟩; exact ⟨slot_lt h1, ⟨d, h1⟩, h2⟩
theorem live_range (A : Ar) : ∀ m, A.length ≤ m → liveA A = ((List.range m).filter fun i => (slot A i).isSome).length := by
  intro m hm
  have h1 : ∀ k, k ≤ A.length → (A.take k).countP (·.isSome) = ((List.range k).filter fun i => (slot A i).isSome).length := by
    intro k
    induction k with
    | zero => intro _; rfl
    | succ k ih =>
      intro hk
      rw [List.range_succ, List.filter_append, List.length_append, ← ih (by omega), List.take_add_one, slot_get (by omega), List.countP_append]
      congr 1
      cases hs : slot A k <;> simp [hs]
  have h2 : ∀ d, ((List.range (A.length + d)).filter fun i => (slot A i).isSome).length = ((List.range A.length).filter fun i => (slot A i).isSome).length := by
    intro d
    induction d with
    | zero => rfl
    | succ d ih =>
      rw [← Nat.add_assoc, List.range_succ, List.filter_append, List.length_append, ih]
      have : slot A (A.length + d) = none := slot_none (by omega)
      simp [this]
  have := h1 A.length (Nat.le_refl _)
  rw [List.take_length] at this
  obtain ⟨d, rfl⟩ : ∃ d, m = A.length + d := ⟨m - A.length, by omega⟩
  rw [h2, ← this]; rfl
theorem live_ext {A A' : Ar} (h : Ext A A') : liveA A' = liveA A + (newP A A').length := by
  have hlen : A.length ≤ max A.length A'.length := by omega
  rw [live_range A (max A.length A'.length) (by omega), live_range A' (max A.length A'.length) (by omega)]
  have hnew : (newP A A').length = ((List.range (max A.length A'.length)).filter fun i => (slot A' i).isSome && (slot A i).isNone).length := by
    refine Nat.le_antisymm (len_subG (newP_nodup A A') fun i hi => ?_) (len_subG (List.nodup_range.sublist List.filter_sublist) fun i hi => ?_)
    · unfold newP at hi
      obtain ⟨h1, h2⟩ := List.mem_filter.1 hi
      exact List.mem_filter.2 ⟨List.mem_range.2 (by have := List.mem_range.1 h1; omega), h2⟩
    · obtain ⟨h1, h2⟩ := List.mem_filter.1 hi
      rw [Bool.and_eq_true, Option.isSome_iff_exists, Option.isNone_iff_eq_none] at h2
      exact mem_newP.2 h2
  rw [hnew]
  generalize max A.length A'.length = m
  induction m with
  | zero => rfl
  | succ m ih =>
    rw [List.range_succ, List.filter_append, List.filter_append, List.filter_append, List.length_append, List.length_append, List.length_append, ih]
    cases h1 : slot A m with
    | some d =>
      have h3 := h m d h1
      simp [h1, h3]; omega
    | none =>
      cases h2 : slot A' m <;> simp [h1, h2]
      omega
theorem made_few {n : Nat} {room : Int} {A A' : Ar} {F : Fn} {id e : Int} (h : Made n room A A' F id e) {D : List Nat} (hD : Hangs D F) : liveA A' ≤ liveA A + (2 ^ D.length - 1) := by
  rw [live_ext h.ext]
  have := needed_few h.inv hD (newP_nodup A A') fun i hi => by
    obtain ⟨⟨d, h1⟩, h2⟩ := mem_newP.1 hi
    exact ⟨d, h1, h.need i d h1 h2⟩
  omega
/-- With room enough it is made. -/
theorem made_ok {n : Nat} {room : Int} {A A' : Ar} {F : Fn} {id e : Int} (h : Made n room A A' F id e) {D : List Nat} (hD : Hangs D F) (hr : (liveA A : Int) + 2 ^ D.length ≤ room) : e = 0 ∧ Rep A' id F := by
  rcases h.res with h1 | ⟨_, _, h2, _⟩
  · exact h1
  · have := made_few h hD
    have hp := Nat.one_le_two_pow (n := D.length)
    have : ((2 ^ D.length : Nat) : Int) = 2 ^ D.length := by simp
    omega
theorem low_hangs {n : Nat} {F : Fn} (h : Low n F) : Hangs (List.range n) F := fun a b hab => h a b fun j hj => hab j (List.mem_range.2 hj)
/-- An empty diagram's room is too small just if more are needed. -/
theorem made_lack {o : List Nat} (ho : OrdO o) {room : Int} {A' : Ar} {s : Nat} {id e : Int} (h : Made o.length room [] A' (FnS o s) id e) (he : e ≠ 0) : e = 5 ∧ id = 0 ∧ room < (sizeS o s : Int) := by
  rcases h.res with ⟨h1, _⟩ | ⟨h1, h2, h3, h4⟩
  · exact absurd h1 he
  · refine ⟨h1, h2, ?_⟩
    have := lack_count ho h.inv (newP_nodup [] A') (fun i hi => by
      obtain ⟨⟨d, h5⟩, h6⟩ := mem_newP.1 hi
      exact ⟨d, h5, h.need i d h5 h6⟩) h4
    have hl := live_ext h.ext
    have : liveA ([] : Ar) = 0 := rfl
    omega
end Go.Dk
end

section
/- Coverings: rows that are kept. -/
namespace Go.Proofs.Ytjebpngdinbckaa
open Go.Dk
attribute [local irreducible] IntKind.wrap

/-- The rows that are kept. -/
def keepI (p : Nat → List Int → Bool) : Nat → Mat → Mat
  | _, [] => []
  | i, r :: R => if p i r then r :: keepI p (i + 1) R else keepI p (i + 1) R
theorem keepI_append (p : Nat → List Int → Bool) : ∀ (i : Nat) (R T : Mat), keepI p i (R ++ T) = keepI p i R ++ keepI p (i + R.length) T
  | i, [], T => by simp [keepI]
  | i, r :: R, T => by
    have e : i + 1 + R.length = i + (r :: R).length := by simp; omega
    simp only [List.cons_append, keepI]
    rw [keepI_append p (i + 1) R T, e]
    split <;> rfl
theorem keepI_snoc (p : Nat → List Int → Bool) {R : Mat} {i : Nat} {x : List Int} (hx : R[i]? = some x) : keepI p 0 (R.take (i + 1)) = keepI p 0 (R.take i) ++ (if p i x then [x] else []) := by
  have hi := (List.getElem?_eq_some_iff.1 hx).1
  rw [List.take_add_one, hx, keepI_append, List.length_take, Nat.min_eq_left (by omega), Nat.zero_add]
  simp only [Option.toList_some, keepI]
theorem keepI_len (p : Nat → List Int → Bool) : ∀ (i : Nat) (R : Mat), (keepI p i R).length ≤ R.length
  | _, [] => Nat.le_refl _
  | i, r :: R => by
    have := keepI_len p (i + 1) R
    simp only [keepI]
    split <;> simp only [List.length_cons] <;> omega
theorem zero91 : zeroT Try.prog 91 = some (mv 0 (.slice none 0 0)) := by kernel_rfl
theorem T89 : SlT Try.prog 89 32 (.slice none 0 0) 1 24 := ⟨Try.underlying89, by kernel_rfl, rfl, by decide⟩
theorem build91a {a : Int} {w : World} {kk : Value → World → Prop} (h : kk (mv a (.slice none 0 0)) w) : buildK Try.prog 91 [(0, .int .i64 a)] w kk := build_by (fun w => by kernel_rfl) h
theorem size89 : sizeT Try.prog 89 = some 1 := by kernel_rfl
theorem mc_one {cols : Int} {A : Option Addr} {l c : Nat} : ∀ v ∈ (mc cols (.slice A l c)).toList, v.oneCell' = true := by
  intro v hv
  simp [mc] at hv
  rcases hv with rfl | rfl <;> rfl
theorem call_fnC {P : Program} {g : FuncId} {caps : Array Value} {args : List Value} {w : World} {k : Value → World → Prop} {q : Value → World → Prop} (h : Fun P g (args ++ caps.toList) w q) (hk : ∀ v w', q v w' → k v w') :
    callK P (.func (.func g) #[] caps) args w k := by
  unfold callK
  exact h.mono hk
/-- What a call hands back: a covering's rows, in S or new. -/
structure NewM (S : Nat → Prop) (w w' : World) (v : Value) (R : Mat) : Prop where
  keeps : Same w w'
  mat : ∃ S', matOk S' v R w' ∧ ∀ g, S' g → g < w'.heap.size ∧ (w.heap.size ≤ g ∨ S g)
theorem ent172 : enters Try.prog 172 = true := by kernel_rfl
theorem c172 (cols : Int) (R : Mat) (v1 : Value) (S : Nat → Prop) (g : FuncId) (caps : Array Value) (p : Nat → List Int → Bool) (w : World) (hl : R.length ≤ 1000000000) (h1 : matOk S v1 R w) (hS : ∀ g, S g → g < w.heap.size)
    (hp : ∀ (i : Nat) (ks : List Int) (B : Option Addr) (c : Nat) (w1 : World), R[i]? = some ks → Same w w1 → Sl w (.slice B ks.length c) 1 ks.length (intsI ks) →
      Fun Try.prog g (([.int .i64 (i : Int), .slice B ks.length c] : List Value) ++ caps.toList) w1 fun v w' => v = .bool (p i ks) ∧ Same w1 w') :
    Fun Try.prog 172 [mv cols v1, .func (.func g) #[] caps] w fun v w' => ∃ v', v = mv cols v' ∧ NewM S w w' v' (keepI p 0 R) := by
  refine fun_of_W (N := 31) Try.func172 ent172 rfl rfl rfl (by simp) ?_
  have H := Hp.start0 w
  obtain ⟨A, ca, va, rfl, ha0, hr0⟩ := h1
  have ha : Sl w (.slice A R.length ca) 1 R.length va := sl.mono ha0 hS
  have hvl : va.length = R.length := by have := ha.1; omega
  refine H.box 91 (mv _ _) (cs := mc _ _) rfl ?_
  clear H
  intro g1 w1 H
  refine H.alloc 91 zero91 rfl ?_
  clear H
  intro g2 w2 H
  refine cut_rule (γ := Nat) _ rfl (fun g3 => [(5, .pointer (some ⟨g3, 0, none⟩))]) (fun g3 w' => Hp w (fun _ => False) w' [blk g3 91 (mc cols (.slice none 0 0)), blk g2 91 (mv 0 (.slice none 0 0)).cells, blk g1 91 (mc cols (.slice A R.length ca))] []) ?_ ?_
  · refine fieldAddr_by (fa91_0 _) ?_
    refine H.load 1 rfl agg3 rfl ?_
    refine build91a ?_
    refine H.alloc 91 zero91 rfl ?_ 
    clear H 
    intro g3 w3 H
    refine H.storeAll 0 rfl size91 rfl (fun v hv => mc_one v hv) ?_ 
    clear H 
    intro w7 H
    exact ⟨_, ⟨rfl, trivial⟩, H⟩
  · clear H
    rintro g3 u w3 H
    replace H : Hp _ _ _ _ _ := H
    replace H := (H.ownNil 32 1).front 1 rfl
    refine cut_rule (γ := Option Addr × Nat × List Value) _ rfl (fun _ => []) (fun (B, d, hs) w' => (hs.length = (keepI p 0 R).length ∧ ∀ (j : Nat) (u : Value) (ks : List Int), hs[j]? = some u → (keepI p 0 R)[j]? = some ks → rowV S w u ks) ∧
      Hp w (fun _ => False) w' [blk g3 91 (mc cols (.slice B hs.length d)), own 32 1 (.slice B hs.length d) hs.length hs, blk g2 91 (mv 0 (.slice none 0 0)).cells, blk g1 91 (mc cols (.slice A R.length ca))] []) ?_ ?_
    · refine fieldAddr_by (fa91_1 _) ?_
      refine H.load 3 rfl agg89 rfl ?_
      refine len_sl Try.underlying89 ?_
      refine loop_rule (γ := Nat × Option Addr × Nat × List Value) _ rfl (fun (i, _) => [(14, .int .i64 (i : Int))])
        (fun (i, B, d, hs) w' => (i ≤ R.length ∧ hs.length = (keepI p 0 (R.take i)).length ∧ ∀ (j : Nat) (u : Value) (ks : List Int), hs[j]? = some u → (keepI p 0 (R.take i))[j]? = some ks → rowV S w u ks) ∧
          Hp w (fun _ => False) w' [blk g3 91 (mc cols (.slice B hs.length d)), own 32 1 (.slice B hs.length d) hs.length hs, blk g2 91 (mv 0 (.slice none 0 0)).cells, blk g1 91 (mc cols (.slice A R.length ca))] [])
        (fun (i, _) => R.length - i) (0, none, 0, []) ⟨rfl, trivial⟩ ⟨⟨Nat.zero_le _, by simp [keepI], fun j u ks h => by simp at h⟩, H⟩ ?_
      clear H
      rintro ⟨i, B, d, hs⟩ u w4 ⟨⟨hi, hhl, hrs⟩, H⟩
      replace H : Hp _ _ _ _ _ := H
      refine cond_dec (fun h7 => ?_) (fun h7 => ?_)
      · obtain ⟨x, hx⟩ : ∃ x, R[i]? = some x := ⟨_, List.getElem?_eq_getElem (by omega)⟩
        have hu : va[i]? = some (va[i]'(by omega)) := List.getElem?_eq_getElem (by omega)
        obtain ⟨Bx, cx, hux, hsx0⟩ := hr0 i _ x hu hx
        rw [hux] at hu
        have hsx : Sl w (.slice Bx x.length cx) 1 x.length (intsI x) := sl.mono hsx0 hS
        obtain ⟨g0, o0, rfl⟩ := ha.A (by omega)
        have hsn := keepI_snoc p hx
        refine idxAddr_sl Try.underlying89 (s := 1) size32 i rfl (by omega) (o' := o0 + i) (by omega) ?_
        refine H.loadSl (i := i) ha aggrow _ rfl hu ?_
        refine call_fnC (hp i x Bx cx _ hx H.keeps hsx) ?_
        rintro _ w5 ⟨rfl, hk⟩
        replace H := H.same hk
        clear hk
        refine cond_split (fun hb => ?_) (fun hb => ?_)
        · rw [if_pos hb] at hsn
          refine fieldAddr_by (fa91_1 _) ?_
          refine H.load 0 rfl agg89 rfl ?_
          refine H.buildOne T89 rfl ?_ 
          clear H 
          intro g5 w6 H
          have hb1 : hs.length ≤ 1000000000 := by have := keepI_len p 0 (R.take i); rw [List.length_take] at this; omega
          refine H.appendOne 1 T89 rfl rfl (by omega) (by omega) ?_
          clear H
          intro B2 d2 w7 H
          refine fieldAddr_by (fa91_1 _) ?_
          refine H.store 0 rfl size89 (by show 1 < 2; decide) rfl ?_
          clear H
          intro w8 H
          have hli : (hs ++ [Value.slice Bx x.length cx]).length = hs.length + 1 := by simp
          refine ⟨(i + 1, B2, d2, hs ++ [Value.slice Bx x.length cx]), by show R.length - (i + 1) < R.length - i; omega, ⟨up (by omega), trivial⟩, ⟨by show i + 1 ≤ R.length; omega, by rw [hsn, hli, List.length_append, hhl]; rfl, ?_⟩, by rw [hli]; exact H⟩
          intro j u ks hj hks
          rw [hsn] at hks
          by_cases hjl : j < hs.length
          · rw [List.getElem?_append_left hjl] at hj
            rw [List.getElem?_append_left (by omega)] at hks
            exact hrs j u ks hj hks
          · rw [List.getElem?_append_right (by omega)] at hj hks
            have hj0 : j - hs.length = 0 := by have := (List.getElem?_eq_some_iff.1 hj).1; simp at this; omega
            rw [← hhl, hj0] at hks
            rw [hj0] at hj
            simp at hj hks
            subst hj; subst hks
            exact ⟨Bx, cx, rfl, hsx0⟩
        · rw [if_neg (by rw [hb]; decide), List.append_nil] at hsn
          exact ⟨(i + 1, B, d, hs), by show R.length - (i + 1) < R.length - i; omega, ⟨up (by omega), trivial⟩, ⟨by show i + 1 ≤ R.length; omega, by rw [hsn]; exact hhl, by rw [hsn]; exact hrs⟩, H⟩
      · have : i = R.length := by omega
        subst this
        rw [List.take_length] at hhl hrs
        exact ⟨(B, d, hs), trivial, ⟨hhl, hrs⟩, H⟩
    · clear H
      rintro ⟨B, d, hs⟩ u w4 ⟨⟨hhl, hrs⟩, H⟩
      replace H : Hp _ _ _ _ _ := H
      refine H.loadAll 0 rfl agg91 size91 ?_
      refine H.storeAll 2 rfl size91 rfl (fun v hv => mc_one v hv) ?_ 
      clear H 
      intro w5 H
      refine H.loadAll 2 rfl agg91 size91 ?_
      refine ⟨rfl, ?_⟩
      refine ⟨.slice B hs.length d, rfl, H.keeps, ?_⟩
      refine ⟨fun g => S g ∨ (w.heap.size ≤ g ∧ g < w5.heap.size), ⟨B, d, hs, by rw [hhl], ?_, fun i u ks hu hks => ?_⟩, ?_⟩
      · have hown := H.get 1 rfl
        rw [← hhl]
        exact sl.mono (own_sl hown) fun g hg => .inr ⟨(H.new _ (.tail _ (.head _)) g hg).resolve_right id, H.lt _ (.tail _ (.head _)) g hg⟩
      · obtain ⟨B', c', hv', hs'⟩ := hrs i u ks hu hks
        exact ⟨B', c', hv', sl.mono ((sl _ _ _ _ _).stable _ _ (fun g hg => H.keeps.old g (hS g hg) id) hs') fun g hg => .inl hg⟩
      · rintro g (hg | ⟨h1, h2⟩)
        · exact ⟨Nat.lt_of_lt_of_le (hS g hg) H.keeps.size, .inr hg⟩
        · exact ⟨h2, .inl h1⟩
end Go.Proofs.Ytjebpngdinbckaa
end

section
/- Coverings: Take. -/
namespace Go.Proofs.Ytjebpngdinbckaa
open Go.Dk
attribute [local irreducible] IntKind.wrap

theorem mkFunc {P : Program} {fn : Fn} {a c : List Value} {w : World} {k : Value → World → Prop} (h : k (.func fn a.toArray c.toArray) w) : makeFuncK P fn a c w k := by
  unfold makeFuncK
  exact ⟨_, w, by simp [Instr.makeFunc], h⟩
theorem find_at {α : Type} {p : α → Bool} {l : List α} {i : Nat} {x : α} (hno : ∀ y ∈ l.take i, p y = false) (hx : l[i]? = some x) (hp : p x = true) : l.find? p = some x := by
  obtain ⟨hi, rfl⟩ := List.getElem?_eq_some_iff.1 hx
  have hsp : l = l.take i ++ l[i] :: l.drop (i + 1) := by rw [List.getElem_cons_drop, List.take_append_drop]
  generalize l[i] = y at hsp hp
  rw [hsp, List.find?_append, List.find?_eq_none.2 (fun y hy => by rw [hno y hy]; decide), Option.none_or, List.find?_cons, hp]
theorem no_snoc {α : Type} {p : α → Bool} {l : List α} {i : Nat} {x : α} (hno : ∀ y ∈ l.take i, p y = false) (hx : l[i]? = some x) (hp : p x = false) : ∀ y ∈ l.take (i + 1), p y = false := by
  intro y hy
  rw [List.take_add_one, hx] at hy
  rcases List.mem_append.1 hy with hy | hy
  · exact hno y hy
  · have : y = x := by simpa using hy
    rw [this]; exact hp
theorem _root_.Go.Dk.Hp.addM {w0 w w' : World} {F : Nat → Prop} {L M : List Res} {S : Nat → Prop} {v v' : Value} {R R' : Mat} (H : Hp w0 F w L M) (hM : MatR S v R ∈ M) (hn : NewM S w w' v' R') :
    ∃ S', Hp w0 F w' L (MatR S' v' R' :: M) ∧ ∀ g, S' g → w0.heap.size ≤ g ∨ S g := by
  obtain ⟨hk, S', hok, hS'⟩ := hn
  refine ⟨S', H.addRO hk (MatR S' v' R') hok fun g hg => ⟨(hS' g hg).1, (hS' g hg).2.imp id fun h => ⟨_, hM, h⟩⟩, fun g hg => (hS' g hg).2.imp (fun h => Nat.le_trans H.keeps.size h) id⟩
theorem _root_.Go.Dk.Hp.outM {w w' : World} {L M : List Res} {S S' : Nat → Prop} {v' : Value} {R' : Mat} (H : Hp w (fun _ => False) w' L (MatR S' v' R' :: M)) (hS' : ∀ g, S' g → w.heap.size ≤ g ∨ S g) : NewM S w w' v' R' :=
  ⟨H.keeps, S', H.ro 0 rfl, fun g hg => ⟨H.rlt _ (.head _) g hg, hS' g hg⟩⟩
theorem matOk.form {S : Nat → Prop} {v : Value} {R : Mat} {w : World} (h : matOk S v R w) : ∃ A c, v = .slice A R.length c := by
  obtain ⟨B, c, vs, hv, _⟩ := h
  exact ⟨B, c, hv⟩
theorem startM {S : Nat → Prop} {v : Value} {R : Mat} {w : World} (h : matOk S v R w) (hS : ∀ g, S g → g < w.heap.size) : Hp w (fun _ => False) w [] [MatR S v R] :=
  Hp.start w _ _ (fun r hr => by rw [List.mem_singleton] at hr; subst hr; exact h) (fun r hr => by rw [List.mem_singleton] at hr; subst hr; exact hS)
theorem ent173 : enters Try.prog 173 = true := by kernel_rfl
theorem c173 (i : Int) (ks : List Int) (B : Option Addr) (c : Nat) (col : Int) (g7 : Nat) (w : World) (hl : ks.length ≤ 1000000000) (hs : Sl w (.slice B ks.length c) 1 ks.length (intsI ks)) (hc : (blk g7 3 #[.int .i64 col]).ok w) :
    Fun Try.prog 173 [.int .i64 i, .slice B ks.length c, .pointer (some ⟨g7, 0, none⟩)] w fun v w' => v = .bool (!decide (col ∈ ks)) ∧ Same w w' := by
  refine fun_of_W (N := 10) Try.func173 ent173 rfl rfl rfl (by simp) ?_
  refine ld_blk hc agg3 rfl ?_
  refine call_fn (c174 ks B c col _ hl hs) ?_
  rintro _ w1 ⟨rfl, hk⟩
  exact ⟨rfl, hk⟩
theorem ent176 : enters Try.prog 176 = true := by kernel_rfl
theorem c176 (i : Int) (v : Value) (i0 : Int) (g7 : Nat) (w : World) (hc : (blk g7 3 #[.int .i64 i0]).ok w) :
    Fun Try.prog 176 [.int .i64 i, v, .pointer (some ⟨g7, 0, none⟩)] w fun v w' => v = .bool (i != i0) ∧ Same w w' := by
  refine fun_of_W (N := 9) Try.func176 ent176 rfl rfl rfl (by simp) ?_
  refine ld_blk hc agg3 rfl ?_
  exact ⟨rfl, Keeps.refl _ _⟩
theorem keepI_filter (q : List Int → Bool) : ∀ (i : Nat) (R : Mat), keepI (fun _ r => q r) i R = R.filter q
  | _, [] => rfl
  | i, r :: R => by simp only [keepI, List.filter_cons, keepI_filter q (i + 1) R]
theorem keepI_all (p : Nat → List Int → Bool) : ∀ (i : Nat) (R : Mat), (∀ j r, i ≤ j → p j r = true) → keepI p i R = R
  | _, [], _ => rfl
  | i, r :: R, h => by
    simp only [keepI]
    rw [if_pos (h i r (Nat.le_refl _)), keepI_all p (i + 1) R fun j r hj => h j r (by omega)]
theorem keepI_erase (i0 : Nat) : ∀ (i : Nat) (R : Mat), i ≤ i0 → keepI (fun x _ => (x : Int) != (i0 : Int)) i R = R.eraseIdx (i0 - i)
  | _, [], _ => by simp [keepI]
  | i, r :: R, h => by
    simp only [keepI]
    by_cases he : i = i0
    · subst he
      rw [if_neg (by simp), Nat.sub_self, List.eraseIdx_cons_zero]
      exact keepI_all _ _ _ fun j r hj => by simp; omega
    · obtain ⟨m, hm⟩ : ∃ m, i0 - i = m + 1 := ⟨i0 - i - 1, by omega⟩
      rw [if_pos (by simp; omega), hm, List.eraseIdx_cons_succ, keepI_erase i0 (i + 1) R (by omega), show i0 - (i + 1) = m by omega]
/-- Take, as it is called. -/
def takeO (cols : Int) (R : Mat) : Option (Mat × Int) := if rightB cols R then takeS R else none
theorem ent81 : enters Try.prog 81 = true := by kernel_rfl
theorem c81 (cols : Int) (R : Mat) (v1 : Value) (S : Nat → Prop) (w : World) (hl : R.length ≤ 1000000000) (hlr : ∀ r ∈ R, r.length ≤ 1000000000) (h1 : matOk S v1 R w) (hS : ∀ g, S g → g < w.heap.size) :
    Fun Try.prog 81 [mv cols v1] w fun v w' => ∃ v', v = .tuple #[mv cols v', .int .i64 (((takeO cols R).map (·.2)).getD 0), .bool (takeO cols R).isSome] ∧ NewM S w w' v' (((takeO cols R).map (·.1)).getD R) := by
  refine fun_of_W (N := 31) Try.func81 ent81 rfl rfl rfl (by simp) ?_
  have H := startM h1 hS
  have h1' : MatAt w v1 R := MatR.mono h1 hS
  obtain ⟨A, ca, va, rfl, ha, hra⟩ := h1'.openM
  refine H.box 91 (mv _ _) (cs := mc _ _) rfl ?_
  clear H
  intro g1 w1 H
  refine H.alloc 91 zero91 rfl ?_
  clear H
  intro g2 w2 H
  refine H.loadAll 1 rfl agg91 size91 ?_
  refine call_fn (c171 cols R _ _ hl hlr (h1'.same H.keeps)) ?_
  rintro _ w3 ⟨rfl, hk⟩
  replace H := H.same hk
  clear hk
  refine cond_split (fun hr => ?_) (fun hr => ?_)
  · have hno : takeO cols R = none := by unfold takeO; rw [if_neg]; simpa using hr
    rw [hno]
    refine H.loadAll 1 rfl agg91 size91 ?_
    refine H.storeAll 0 rfl size91 rfl (fun v hv => mc_one v hv) ?_
    clear H
    intro w4 H
    refine H.loadAll 0 rfl agg91 size91 ?_
    refine ⟨rfl, ?_⟩
    exact ⟨_, rfl, H.outM fun g hg => .inr hg⟩
  · have hr' : rightB cols R = true := by simpa using hr
    have htk : takeO cols R = takeS R := by unfold takeO; rw [if_pos hr']
    rw [htk]
    refine cut_rule (γ := Unit) _ rfl (fun _ => []) (fun _ w' => (∀ r ∈ R, (r.length == 1) = false) ∧ Hp.cl H w') ?_ ?_
    · refine fieldAddr_by (fa91_1 _) ?_
      refine H.load 1 rfl agg89 rfl ?_
      refine len_sl Try.underlying89 ?_
      refine loop_rule (γ := Nat) _ rfl (fun i => [(15, .int .i64 (i : Int))]) (fun i w' => (i ≤ R.length ∧ ∀ r ∈ R.take i, (r.length == 1) = false) ∧ Hp.cl H w') (fun i => R.length - i) 0 ⟨rfl, trivial⟩ ⟨⟨Nat.zero_le _, by simp⟩, H⟩ ?_
      rintro i u w4 ⟨⟨hi, hno⟩, H1⟩
      replace H : Hp _ _ _ _ _ := H1
      clear H1
      refine cond_dec (fun h7 => ?_) (fun h7 => ?_)
      · obtain ⟨x, hx⟩ : ∃ x, R[i]? = some x := ⟨_, List.getElem?_eq_getElem (by omega)⟩
        obtain ⟨g0, o0, rfl⟩ := ha.A (by omega)
        obtain ⟨Bx, cx, hget, hsx⟩ := hra i x hx
        refine idxAddr_sl Try.underlying89 (s := 1) size32 i rfl (by omega) (o' := o0 + i) (by omega) ?_
        refine H.loadSl (i := i) ha aggrow _ rfl hget ?_
        refine len_sl Try.underlying32 ?_
        refine cond_beq (fun h8 => ?_) (fun h8 => ?_)
        · have hx1 : x.length = 1 := by omega
          obtain ⟨k, rfl⟩ : ∃ k, x = [k] := List.length_eq_one_iff.1 hx1
          have hfd : R.find? (fun r => r.length == 1) = some [k] := find_at hno hx (by rfl)
          have htake : takeS R = some (R.filter fun q => !decide (k ∈ q), k) := by unfold takeS; rw [hfd]; rfl
          rw [htake]
          obtain ⟨gx, ox, rfl⟩ := hsx.A (by simp)
          refine idxAddr_sl Try.underlying32 (s := 1) size3 0 rfl (by simp) (o' := ox) (by omega) ?_
          refine H.loadSl (i := 0) hsx agg3 _ rfl rfl ?_
          refine H.alloc 3 zero3 rfl ?_
          clear H
          intro g7 w5 H
          refine H.store 0 rfl size3 (by show 0 < 1; decide) rfl ?_
          clear H
          intro w6 H
          replace H : Hp w (fun _ => False) w6 [blk g7 3 #[.int .i64 k], blk g2 91 (mv 0 (.slice none 0 0)).cells, blk g1 91 (mc cols (.slice (some ⟨g0, o0, none⟩) R.length ca))] [MatR S (.slice (some ⟨g0, o0, none⟩) R.length ca) R] := H
          refine H.drawC [blk g7 3 #[.int .i64 k], blk g1 91 (mc cols (.slice (some ⟨g0, o0, none⟩) R.length ca))] (fun u H => (H.front 1 rfl).forget) fol (by kernel_rfl) ?_
          clear H
          intro w7 H
          refine quiet _ (fun w H => H.loadAll 1 rfl agg91 size91 ⟨rfl, rfl⟩) ?_
          refine quiet _ (fun w H => mkFunc ⟨rfl, rfl⟩) ?_
          refine call_fn (c172 cols R _ S 173 _ (fun _ r => !decide (k ∈ r)) _ hl (H.ro 0 rfl) (H.rlt _ (.head _)) (fun i ks B c u hks hsame hsl => c173 _ ks B c k g7 u (hlr _ (List.mem_of_getElem? hks)) (hsl.same hsame) ((H.same hsame).get 0 rfl))) ?_
          rintro _ w8 ⟨v', rfl, hn⟩
          rw [keepI_filter] at hn
          obtain ⟨S', H2, hS'⟩ := H.addM (.head _) hn
          clear H
          replace H := H2
          clear H2
          refine ⟨.inl ((H.front 1 rfl).forget).forgetRO, ?_⟩
          refine quiet _ (fun w H => H.load 0 rfl agg3 rfl ⟨rfl, rfl⟩) ?_
          obtain ⟨A', c', hv'⟩ := (H.ro 0 rfl).form
          subst hv'
          refine H.storeAll 1 rfl size91 rfl (fun v hv => mc_one v hv) ?_
          clear H
          intro w9 H
          refine ⟨.inl ((H.front 1 rfl).forget).forgetRO, ?_⟩
          refine H.loadAll 1 rfl agg91 size91 ?_
          refine ⟨rfl, ?_⟩
          exact ⟨_, rfl, H.outM hS'⟩
        · exact ⟨i + 1, by show R.length - (i + 1) < R.length - i; omega, ⟨up (by omega), trivial⟩, ⟨by show i + 1 ≤ R.length; omega, no_snoc hno hx (by simp; omega)⟩, H⟩
      · have : i = R.length := by omega
        subst this
        rw [List.take_length] at hno
        exact ⟨(), trivial, hno, H⟩
    · rintro ⟨⟩ u w4 ⟨hno, H1⟩
      replace H : Hp _ _ _ _ _ := H1
      clear H1
      have htake : takeS R = none := by unfold takeS; rw [List.find?_eq_none.2 (fun y hy => by rw [hno y hy]; decide)]; rfl
      rw [htake]
      refine H.loadAll 1 rfl agg91 size91 ?_
      refine H.storeAll 0 rfl size91 rfl (fun v hv => mc_one v hv) ?_
      clear H
      intro w5 H
      refine H.loadAll 0 rfl agg91 size91 ?_
      refine ⟨rfl, ?_⟩
      exact ⟨_, rfl, H.outM fun g hg => .inr hg⟩
end Go.Proofs.Ytjebpngdinbckaa
end

section
/- Coverings: Rows. -/
namespace Go.Proofs.Ytjebpngdinbckaa
open Go.Dk
attribute [local irreducible] IntKind.wrap

/-- Rows, as it is called. -/
def rowsO (cols : Int) (R : Mat) : Option Mat := if rightB cols R then rowsS R else none
theorem rows_found {R : Mat} {i k : Nat} (hno : ∀ i', i' < i → (List.range R.length).any (domR R i') = false) (hi : i < R.length) (hk : k < R.length) (hd : domR R i k = true) : rowsS R = some (R.eraseIdx i) := by
  unfold rowsS rowsI
  rw [find_at (i := i) (x := i) (fun y hy => ?_) (by rw [List.getElem?_range hi]) (List.any_eq_true.2 ⟨k, List.mem_range.2 hk, hd⟩)]
  · rfl
  · rw [List.take_range, Nat.min_eq_left (by omega)] at hy
    exact hno y (List.mem_range.1 hy)
theorem rows_none {R : Mat} (hno : ∀ i', i' < R.length → (List.range R.length).any (domR R i') = false) : rowsS R = none := by
  unfold rowsS rowsI
  rw [List.find?_eq_none.2 (fun y hy => by rw [hno y (List.mem_range.1 hy)]; decide)]; rfl
theorem any_no {n : Nat} {p : Nat → Bool} (h : ∀ k, k < n → p k = false) : (List.range n).any p = false := by
  rw [Bool.eq_false_iff]
  intro hh
  obtain ⟨k, hk, hp⟩ := List.any_eq_true.1 hh
  rw [h k (List.mem_range.1 hk)] at hp; cases hp
theorem lt_snoc {n : Nat} {p : Nat → Bool} (h : ∀ k, k < n → p k = false) (hn : p n = false) : ∀ k, k < n + 1 → p k = false := fun k hk => by
  rcases Nat.lt_or_ge k n with hlt | hge
  · exact h k hlt
  · obtain rfl : k = n := by omega
    exact hn
theorem dom_at {R : Mat} {i k : Nat} {x y : List Int} (hx : R[i]? = some x) (hy : R[k]? = some y) : domR R i k = ((k != i) && withinB y x && (decide (y.length < x.length) || decide (k < i))) := by
  unfold domR
  rw [List.getD_eq_getElem?_getD, List.getD_eq_getElem?_getD, hx, hy]; rfl
theorem ent82 : enters Try.prog 82 = true := by kernel_rfl
theorem c82 (cols : Int) (R : Mat) (v1 : Value) (S : Nat → Prop) (w : World) (hl : R.length ≤ 1000000000) (hlr : ∀ r ∈ R, r.length ≤ 1000000000) (h1 : matOk S v1 R w) (hS : ∀ g, S g → g < w.heap.size) :
    Fun Try.prog 82 [mv cols v1] w fun v w' => ∃ v', v = .tuple #[mv cols v', .bool (rowsO cols R).isSome] ∧ NewM S w w' v' ((rowsO cols R).getD R) := by
  refine fun_of_W (N := 54) Try.func82 ent82 rfl rfl rfl (by simp) ?_
  have H := startM h1 hS
  have h1' : MatAt w v1 R := MatR.mono h1 hS
  obtain ⟨A, ca, va, rfl, ha, hra⟩ := h1'.openM
  refine H.box 91 (mv _ _) (cs := mc _ _) rfl ?_
  clear H
  intro g1 w1 H
  refine H.alloc 91 zero91 rfl ?_
  clear H
  intro g2 w2 H
  refine H.loadAll 1 rfl agg91 size91 ?_
  refine call_fn (c171 cols R _ _ hl hlr (h1'.same H.keeps)) ?_
  rintro _ w3 ⟨rfl, hk⟩
  replace H := H.same hk
  clear hk
  refine cond_split (fun hr => ?_) (fun hr => ?_)
  · have hno : rowsO cols R = none := by unfold rowsO; rw [if_neg]; simpa using hr
    rw [hno]
    refine H.loadAll 1 rfl agg91 size91 ?_
    refine H.storeAll 0 rfl size91 rfl (fun v hv => mc_one v hv) ?_
    clear H
    intro w4 H
    refine H.loadAll 0 rfl agg91 size91 ?_
    refine ⟨rfl, ?_⟩
    exact ⟨_, rfl, H.outM fun g hg => .inr hg⟩
  · have hr' : rightB cols R = true := by simpa using hr
    have htk : rowsO cols R = rowsS R := by unfold rowsO; rw [if_pos hr']
    rw [htk]
    refine cut_rule (γ := Unit) _ rfl (fun _ => []) (fun _ w' => (∀ i, i < R.length → (List.range R.length).any (domR R i) = false) ∧ Hp.cl H w') ?_ ?_
    · refine fieldAddr_by (fa91_1 _) ?_
      refine H.load 1 rfl agg89 rfl ?_
      refine len_sl Try.underlying89 ?_
      refine loop_rule (γ := Nat) _ rfl (fun i => [(15, .int .i64 (i : Int))]) (fun i w' => (i ≤ R.length ∧ ∀ i', i' < i → (List.range R.length).any (domR R i') = false) ∧ Hp.cl H w') (fun i => R.length - i) 0 ⟨rfl, trivial⟩ ⟨⟨Nat.zero_le _, fun i' h => by omega⟩, H⟩ ?_
      rintro i u w4 ⟨⟨hi, hno⟩, H1⟩
      replace H : Hp _ _ _ _ _ := H1
      clear H1
      refine cond_dec (fun h7 => ?_) (fun h7 => ?_)
      · obtain ⟨x, hx⟩ : ∃ x, R[i]? = some x := ⟨_, List.getElem?_eq_getElem (by omega)⟩
        obtain ⟨g0, o0, rfl⟩ := ha.A (by omega)
        obtain ⟨Bx, cx, hget, hsx⟩ := hra i x hx
        have hxl := hlr x (List.mem_of_getElem? hx)
        refine cut_rule (γ := Unit) _ rfl (fun _ => []) (fun _ w' => (∀ k, k < R.length → domR R i k = false) ∧ Hp.cl H w') ?_ ?_
        · refine idxAddr_sl Try.underlying89 (s := 1) size32 i rfl (by omega) (o' := o0 + i) (by omega) ?_
          refine H.loadSl (i := i) ha aggrow _ rfl hget ?_
          refine H.alloc 3 zero3 rfl ?_
          intro g7 w5 H2
          refine H2.store 0 rfl size3 (by show 0 < 1; decide) rfl ?_
          clear H2
          intro w6 H2
          replace H2 : Hp w (fun _ => False) w6 [blk g7 3 #[.int .i64 i], blk g2 91 (mv 0 (.slice none 0 0)).cells, blk g1 91 (mc cols (.slice (some ⟨g0, o0, none⟩) R.length ca))] [MatR S (.slice (some ⟨g0, o0, none⟩) R.length ca) R] := H2
          refine fieldAddr_by (fa91_1 _) ?_
          refine H2.load 2 rfl agg89 rfl ?_
          refine len_sl Try.underlying89 ?_
          refine loop_rule (γ := Nat) _ rfl (fun k => [(23, .int .i64 (k : Int))]) (fun k w' => (k ≤ R.length ∧ ∀ k', k' < k → domR R i k' = false) ∧ Hp.cl H2 w') (fun k => R.length - k) 0 ⟨rfl, trivial⟩ ⟨⟨Nat.zero_le _, fun i' h => by omega⟩, H2⟩ ?_
          rintro k u w7 ⟨⟨hkk, hnk⟩, H1⟩
          replace H2 : Hp _ _ _ _ _ := H1
          clear H1
          refine cond_dec (fun h8 => ?_) (fun h8 => ?_)
          · obtain ⟨y, hy⟩ : ∃ y, R[k]? = some y := ⟨_, List.getElem?_eq_getElem (by omega)⟩
            obtain ⟨By, cy, hgety, hsy⟩ := hra k y hy
            have hyl := hlr y (List.mem_of_getElem? hy)
            have hdom := dom_at hx hy
            refine cut_rule (γ := Unit) _ rfl (fun _ => []) (fun _ w' => domR R i k = false ∧ Hp.cl H2 w') ?_ ?_
            · refine cut_rule (γ := Unit) _ rfl (fun _ => [(6, .int .i64 (k : Int)), (7, .slice By y.length cy)]) (fun _ w' => Hp.cl H2 w') ?_ ?_
              · refine idxAddr_sl Try.underlying89 (s := 1) size32 k rfl (by omega) (o' := o0 + k) (by omega) ?_
                refine H2.loadSl (i := k) ha aggrow _ rfl hgety ?_
                exact ⟨(), ⟨rfl, rfl, trivial⟩, H2⟩
              · rintro ⟨⟩ u w8 H1
                replace H2 : Hp _ _ _ _ _ := H1
                clear H1
                refine cut_rule (γ := Unit) _ rfl (fun _ => [(47, .bool (domR R i k))]) (fun _ w' => Hp.cl H2 w') ?_ ?_
                · refine H2.load 0 rfl agg3 rfl ?_
                  refine cond_bne (fun h10 => ?_) (fun h10 => ?_)
                  · have hki : (k != i) = true := by simp; omega
                    refine cond_yes (bne_iff_ne.2 (by omega)) ?_
                    refine cond_yes (bne_iff_ne.2 (by omega)) ?_
                    refine call_fn (c175 y x By Bx cy cx _ hyl hxl (hsy.same H2.keeps) (hsx.same H2.keeps)) ?_
                    rintro _ w13 ⟨rfl, hk13⟩
                    replace H2 := H2.same hk13
                    clear hk13
                    refine cond_yes (bne_iff_ne.2 (by omega)) ?_
                    refine cond_split (fun h15 => ?_) (fun h15 => ?_)
                    · refine cond_yes (by assumption) ?_
                      refine len_sl Try.underlying32 ?_
                      iterate 2 refine cond_yes (by assumption) ?_
                      refine len_sl Try.underlying32 ?_
                      iterate 2 refine cond_yes (by assumption) ?_
                      refine cond_dec (fun h23 => ?_) (fun h23 => ?_)
                      · refine cond_yes (decide_eq_true (by assumption)) ?_
                        refine cond_yes (decide_eq_true (by assumption)) ?_
                        refine cond_yes (by assumption) ?_
                        refine cond_yes (decide_eq_true (by assumption)) ?_
                        refine cond_yes (by assumption) ?_
                        exact ⟨(), ⟨by rw [hdom, hki, h15, decide_eq_true (show y.length < x.length by omega)]; rfl, trivial⟩, H2⟩
                      · refine cond_no (decide_eq_false (by assumption)) ?_
                        refine H2.load 0 rfl agg3 rfl ?_
                        refine cond_no (decide_eq_false (by assumption)) ?_
                        refine cond_yes (by assumption) ?_
                        refine cond_no (decide_eq_false (by assumption)) ?_
                        refine cond_yes (by assumption) ?_
                        exact ⟨(), ⟨by rw [hdom, hki, h15, decide_eq_false (show ¬ y.length < x.length by omega)]; exact congrArg Value.bool (decide_eq_decide.2 (by omega)), trivial⟩, H2⟩
                    · refine cond_no (by assumption) ?_
                      iterate 6 refine cond_no (by assumption) ?_
                      exact ⟨(), ⟨by rw [hdom, hki, h15]; rfl, trivial⟩, H2⟩
                  · have hki : (k != i) = false := by simp; omega
                    iterate 3 refine cond_no (bne_eq_false_iff_eq.2 (by omega)) ?_
                    iterate 8 refine cond_no rfl ?_
                    exact ⟨(), ⟨by rw [hdom, hki]; rfl, trivial⟩, H2⟩
                · rintro ⟨⟩ u w9 H1
                  replace H2 : Hp _ _ _ _ _ := H1
                  clear H1
                  refine cond_split (fun hd => ?_) (fun hd => ⟨(), trivial, hd, H2⟩)
                  rw [rows_found hno (by omega) (by omega) hd]
                  refine H2.loadAll 2 rfl agg91 size91 ?_
                  refine mkFunc ?_
                  refine call_fn (c172 cols R _ S 176 _ (fun x _ => (x : Int) != (i : Int)) _ hl (H2.ro 0 rfl) (H2.rlt _ (.head _)) (fun j ks B c u hks hsame hsl => c176 _ _ i g7 u ((H2.same hsame).get 0 rfl))) ?_
                  rintro _ w10 ⟨v', rfl, hn⟩
                  rw [keepI_erase i 0 R (Nat.zero_le _), Nat.sub_zero] at hn
                  obtain ⟨S', H3, hS'⟩ := H2.addM (.head _) hn
                  obtain ⟨A', c', hv'⟩ := (H3.ro 0 rfl).form
                  subst hv'
                  refine H3.storeAll 1 rfl size91 rfl (fun v hv => mc_one v hv) ?_
                  clear H3
                  intro w11 H3
                  refine H3.loadAll 1 rfl agg91 size91 ?_
                  refine ⟨rfl, ?_⟩
                  exact ⟨_, rfl, H3.outM hS'⟩
            · rintro ⟨⟩ u w9 ⟨hdk, H1⟩
              exact ⟨k + 1, by show R.length - (k + 1) < R.length - k; omega, ⟨up (by omega), trivial⟩, ⟨by show k + 1 ≤ R.length; omega, lt_snoc hnk hdk⟩, H1⟩
          · have : k = R.length := by omega
            subst this
            exact ⟨(), trivial, hnk, H2.forget⟩
        · rintro ⟨⟩ u w5 ⟨hdk, H1⟩
          exact ⟨i + 1, by show R.length - (i + 1) < R.length - i; omega, ⟨up (by omega), trivial⟩, ⟨by show i + 1 ≤ R.length; omega, lt_snoc hno (any_no hdk)⟩, H1⟩
      · have : i = R.length := by omega
        subst this
        exact ⟨(), trivial, hno, H⟩
    · rintro ⟨⟩ u w4 ⟨hno, H1⟩
      replace H : Hp _ _ _ _ _ := H1
      clear H1
      rw [rows_none hno]
      refine H.loadAll 1 rfl agg91 size91 ?_
      refine H.storeAll 0 rfl size91 rfl (fun v hv => mc_one v hv) ?_
      clear H
      intro w5 H
      refine H.loadAll 0 rfl agg91 size91 ?_
      refine ⟨rfl, ?_⟩
      exact ⟨_, rfl, H.outM fun g hg => .inr hg⟩
end Go.Proofs.Ytjebpngdinbckaa
end

section
/- Coverings: where, less; Take, Rows and Columns of the reference. -/
namespace Go.Proofs.Ytjebpngdinbckaa
open Go.Dk
attribute [local irreducible] IntKind.wrap

def whereTo (R : Mat) (c : Int) (i : Nat) : List Int := ((List.range i).filter fun i => decide (c ∈ R.getD i [])).map (fun i : Nat => (i : Int))
theorem where_end (R : Mat) (c : Int) : whereTo R c R.length = whereM R c := rfl
theorem where_succ {R : Mat} {c : Int} {i : Nat} {x : List Int} (hx : R[i]? = some x) : whereTo R c (i + 1) = whereTo R c i ++ (if c ∈ x then [(i : Int)] else []) := by
  unfold whereTo
  rw [List.range_succ, List.filter_append, List.map_append]
  congr 1
  have : R.getD i [] = x := by rw [List.getD_eq_getElem?_getD, hx]; rfl
  by_cases h : c ∈ x
  · simp only [List.filter_cons, this, h, decide_true, if_true, List.filter_nil, List.map_cons, List.map_nil]
  · simp only [List.filter_cons, this, h, decide_false, Bool.false_eq_true, if_false, List.filter_nil, List.map_nil]
theorem whereTo_le (R : Mat) (c : Int) (i : Nat) : (whereTo R c i).length ≤ i := by
  have := List.length_filter_le (fun i => decide (c ∈ R.getD i [])) (List.range i)
  simpa [whereTo] using this
theorem ent211 : enters Try.prog 211 = true := by kernel_rfl
theorem c211 (R : Mat) (c : Int) (v1 : Value) (w : World) (hl : R.length ≤ 1000000000) (hlr : ∀ r ∈ R, r.length ≤ 1000000000) (h1 : MatAt w v1 R) :
    Fun Try.prog 211 [v1, .int .i64 c] w fun v w' => ∃ B d, v = .slice B (whereM R c).length d ∧ NewR w w' (own 3 1 (.slice B (whereM R c).length d) (whereM R c).length (intsI (whereM R c))) := by
  refine fun_of_W (N := 24) Try.func211 ent211 rfl rfl rfl (by simp) ?_
  have H := (Hp.start0 w).ownNil 3 1
  obtain ⟨A, ca, va, rfl, ha, hra⟩ := h1.openM
  refine cut_rule (γ := Unit) _ rfl (fun _ => []) (fun _ w' => Hp.cl H w') ⟨(), trivial, H⟩ ?_
  rintro ⟨⟩ u w0 H1
  replace H : Hp _ _ _ _ _ := H1
  clear H1
  refine cut_rule (γ := Unit) _ rfl (fun _ => [(5, .slice none 0 0)]) (fun _ w' => Hp.cl H w') ⟨(), ⟨rfl, trivial⟩, H⟩ ?_
  rintro ⟨⟩ u w0 H1
  replace H : Hp _ _ _ _ _ := H1
  clear H1
  refine cut_rule (γ := Option Addr × Nat) _ rfl (fun (B, d) => [(5, .slice B (whereM R c).length d)]) (fun (B, d) w' => Hp w (fun _ => False) w' [own 3 1 (.slice B (whereM R c).length d) (whereM R c).length (intsI (whereM R c))] []) ?_ ?_
  · refine loop_rule (γ := Nat × Option Addr × Nat) _ rfl (fun (i, B, d) => [(6, .int .i64 (i : Int)), (5, .slice B (whereTo R c i).length d)])
      (fun (i, B, d) w' => i ≤ R.length ∧ Hp w (fun _ => False) w' [own 3 1 (.slice B (whereTo R c i).length d) (whereTo R c i).length (intsI (whereTo R c i))] []) (fun (i, _) => R.length - i) (0, none, 0) ⟨rfl, rfl, trivial⟩ ⟨Nat.zero_le _, H⟩ ?_
    clear H
    rintro ⟨i, B, d⟩ u w1 ⟨hi, H⟩
    replace H : Hp _ _ _ _ _ := H
    refine len_sl Try.underlying89 ?_
    refine cond_dec (fun h7 => ?_) (fun h7 => ?_)
    · obtain ⟨x, hx⟩ : ∃ x, R[i]? = some x := ⟨_, List.getElem?_eq_getElem (by omega)⟩
      obtain ⟨g0, o0, rfl⟩ := ha.A (by omega)
      obtain ⟨Bx, cx, hget, hsx⟩ := hra i x hx
      have hxl := hlr x (List.mem_of_getElem? hx)
      have hsn := where_succ (c := c) hx
      have hwl := whereTo_le R c i
      refine idxAddr_sl Try.underlying89 (s := 1) size32 i rfl (by omega) (o' := o0 + i) (by omega) ?_
      refine H.loadSl (i := i) ha aggrow _ rfl hget ?_
      refine call_fn (c127 x Bx cx c _ hxl (hsx.same H.keeps)) ?_
      rintro _ w2 ⟨rfl, hk⟩
      replace H := H.same hk
      clear hk
      refine cond_dec (fun hc => ?_) (fun hc => ?_)
      · rw [if_pos hc] at hsn
        refine H.buildOne T32 rfl ?_
        clear H
        intro g3 w3 H
        refine H.appendOne 0 T32 rfl rfl (by omega) (by omega) ?_
        clear H
        intro A4 k4 w4 H
        have e1 : (whereTo R c (i + 1)).length = (whereTo R c i).length + 1 := by rw [hsn]; simp
        have e2 : intsI (whereTo R c (i + 1)) = intsI (whereTo R c i) ++ [.int .i64 (i : Int)] := by rw [hsn]; simp [intsI]
        exact ⟨(i + 1, A4, k4), by show R.length - (i + 1) < R.length - i; omega, ⟨up (by omega), by rw [e1]; rfl, trivial⟩, by show i + 1 ≤ R.length; omega, by rw [e1, e2]; exact H⟩
      · rw [if_neg hc, List.append_nil] at hsn
        exact ⟨(i + 1, B, d), by show R.length - (i + 1) < R.length - i; omega, ⟨up (by omega), by rw [hsn]; rfl, trivial⟩, by show i + 1 ≤ R.length; omega, by rw [hsn]; exact H⟩
    · have : i = R.length := by omega
      subst this
      exact ⟨(B, d), ⟨rfl, trivial⟩, H⟩
  · clear H
    rintro ⟨B, d⟩ u w1 H
    replace H : Hp _ _ _ _ _ := H
    exact ⟨B, d, rfl, H.out⟩
def lessB (cols : Nat) (R : Mat) (c : Int) : Bool := !(whereM R c).isEmpty && (List.range cols).any fun d => domC R c (d : Int)
theorem any_at {n : Nat} {p : Nat → Bool} {d : Nat} (h : d < n) (hp : p d = true) : (List.range n).any p = true := List.any_eq_true.2 ⟨d, List.mem_range.2 h, hp⟩
theorem where_len (R : Mat) (c : Int) : (whereM R c).length ≤ R.length := whereTo_le R c R.length
theorem less_yes {cols : Nat} {R : Mat} {c : Int} {d : Nat} (h : 0 < (whereM R c).length) (hd : d < cols) (hp : domC R c (d : Int) = true) : lessB cols R c = true := by
  unfold lessB
  rw [any_at hd hp, Bool.and_true]
  cases hw : whereM R c with
  | nil => rw [hw] at h; simp at h
  | cons x l => rfl
theorem less_nil {cols : Nat} {R : Mat} {c : Int} (h : (whereM R c).length = 0) : lessB cols R c = false := by
  unfold lessB
  rw [List.length_eq_zero_iff.1 h]; rfl
theorem less_no {cols : Nat} {R : Mat} {c : Int} (h : ∀ d, d < cols → domC R c ((d : Nat) : Int) = false) : lessB cols R c = false := by
  unfold lessB
  rw [any_no h, Bool.and_false]
theorem domC_def (R : Mat) (c d : Int) : domC R c d = ((d != c) && withinB (whereM R c) (whereM R d) && (decide ((whereM R c).length < (whereM R d).length) || decide (d < c))) := rfl
theorem ent178 : enters Try.prog 178 = true := by kernel_rfl
theorem c178 (R : Mat) (cols : Nat) (c : Int) (v1 : Value) (w : World) (hl : R.length ≤ 1000000000) (hcl : cols ≤ 1000000000) (hlr : ∀ r ∈ R, r.length ≤ 1000000000) (h1 : MatAt w v1 R) :
    Fun Try.prog 178 [v1, .int .i64 (cols : Int), .int .i64 c] w fun v w' => v = .bool (lessB cols R c) ∧ Same w w' := by
  refine fun_of_W (N := 46) Try.func178 ent178 rfl rfl rfl (by simp) ?_
  have H := Hp.start0 w
  obtain ⟨A, ca, va, rfl, ha, hra⟩ := h1.openM
  have hwl := where_len R
  refine cut_rule (γ := Unit) _ rfl (fun _ => []) (fun _ w' => Hp.cl H w') ⟨(), trivial, H⟩ ?_
  rintro ⟨⟩ u w0 H1
  replace H : Hp _ _ _ _ _ := H1
  clear H1
  refine cut_rule (γ := Option Addr × Nat) _ rfl (fun (B, d) => [(7, .slice B (whereM R c).length d)]) (fun (B, d) w' => Hp w (fun _ => False) w' [own 3 1 (.slice B (whereM R c).length d) (whereM R c).length (intsI (whereM R c))] []) ?_ ?_
  · refine call_fn (c211 R c _ _ hl hlr (h1.same H.keeps)) ?_
    rintro _ w1 ⟨B, d, rfl, hn⟩
    exact ⟨(B, d), ⟨rfl, trivial⟩, H.addNew hn⟩
  clear H
  rintro ⟨B, d0⟩ u w1 H
  replace H : Hp _ _ _ _ _ := H
  refine cut_rule (γ := Unit) _ rfl (fun _ => []) (fun _ w' => lessB cols R c = false ∧ Hp.cl H w') ?_ ?_
  · refine loop_rule (γ := Nat) _ rfl (fun d => [(8, .int .i64 (d : Int))]) (fun d w' => (d ≤ cols ∧ ∀ d', d' < d → domC R c (d' : Int) = false) ∧ Hp.cl H w') (fun d => cols - d) 0 ⟨rfl, trivial⟩ ⟨⟨Nat.zero_le _, fun d' h => by omega⟩, H⟩ ?_
    rintro d u w2 ⟨⟨hd, hno⟩, H1⟩
    replace H : Hp _ _ _ _ _ := H1
    clear H1
    refine cond_dec (fun h7 => ?_) (fun h7 => ?_)
    · refine cond_yes (decide_eq_true (by assumption)) ?_
      refine len_sl Try.underlying32 ?_
      iterate 2 refine cond_yes (decide_eq_true (by assumption)) ?_
      refine cond_dec (fun h8 => ?_) (fun h8 => ?_)
      · refine cut_rule (γ := Unit) _ rfl (fun _ => []) (fun _ w' => domC R c (d : Int) = false ∧ Hp.cl H w') ?_ ?_
        · refine cut_rule (γ := Option Addr × Nat) _ rfl (fun (B3, d3) => [(9, .slice B3 (whereM R (d : Int)).length d3)]) (fun (B3, d3) w' => Hp w (fun _ => False) w' [own 3 1 (.slice B3 (whereM R (d : Int)).length d3) (whereM R (d : Int)).length (intsI (whereM R (d : Int))), own 3 1 (.slice B (whereM R c).length d0) (whereM R c).length (intsI (whereM R c))] []) ?_ ?_
          · refine call_fn (c211 R (d : Int) _ _ hl hlr (h1.same H.keeps)) ?_
            rintro _ w3 ⟨B3, d3, rfl, hn⟩
            exact ⟨(B3, d3), ⟨rfl, trivial⟩, H.addNew hn⟩
          · rintro ⟨B3, d3⟩ u w3 H2
            replace H2 : Hp _ _ _ _ _ := H2
            refine cut_rule (γ := Unit) _ rfl (fun _ => [(45, .bool (domC R c (d : Int)))]) (fun _ w' => Hp.cl H2 w') ?_ ?_
            · refine cond_bne (fun h4 => ?_) (fun h4 => ?_)
              · refine cond_yes (bne_iff_ne.2 (by omega)) ?_
                refine cond_yes (bne_iff_ne.2 (by omega)) ?_
                refine call_fn (c177 _ _ _ _ _ _ _ (Nat.le_trans (hwl _) hl) (Nat.le_trans (hwl _) hl) (own_Sl (H2.get 1 rfl)) (own_Sl (H2.get 0 rfl))) ?_ 
                rintro _ w9 ⟨rfl, hk9⟩ 
                replace H2 := H2.same hk9 
                clear hk9
                refine cond_yes (bne_iff_ne.2 (by omega)) ?_
                refine cond_split (fun h11 => ?_) (fun h11 => ?_)
                · refine cond_yes (by assumption) ?_
                  refine len_sl Try.underlying32 ?_
                  iterate 2 refine cond_yes (by assumption) ?_
                  refine len_sl Try.underlying32 ?_
                  iterate 2 refine cond_yes (by assumption) ?_
                  refine cond_dec (fun h19 => ?_) (fun h19 => ?_)
                  · refine cond_yes (decide_eq_true (by assumption)) ?_
                    refine cond_yes (decide_eq_true (by assumption)) ?_
                    refine cond_yes (by assumption) ?_
                    refine cond_yes (decide_eq_true (by assumption)) ?_
                    refine cond_yes (by assumption) ?_
                    exact ⟨(), ⟨by rw [domC_def, bne_iff_ne.2 h4, h11, decide_eq_true (show (whereM R c).length < (whereM R (d : Int)).length by omega)]; rfl, trivial⟩, H2⟩
                  · refine cond_no (decide_eq_false (by assumption)) ?_
                    refine cond_no (decide_eq_false (by assumption)) ?_
                    refine cond_yes (by assumption) ?_
                    refine cond_no (decide_eq_false (by assumption)) ?_
                    refine cond_yes (by assumption) ?_
                    exact ⟨(), ⟨by rw [domC_def, bne_iff_ne.2 h4, h11, decide_eq_false (show ¬ (whereM R c).length < (whereM R (d : Int)).length by omega)]; rfl, trivial⟩, H2⟩
                · refine cond_no (by assumption) ?_
                  iterate 6 refine cond_no (by assumption) ?_
                  exact ⟨(), ⟨by rw [domC_def, bne_iff_ne.2 h4, h11]; rfl, trivial⟩, H2⟩
              · refine cond_no (bne_eq_false_iff_eq.2 (by omega)) ?_
                iterate 2 refine cond_no (bne_eq_false_iff_eq.2 (by omega)) ?_
                iterate 8 refine cond_no rfl ?_
                exact ⟨(), ⟨by rw [domC_def, bne_eq_false_iff_eq.2 h4]; rfl, trivial⟩, H2⟩
            · rintro ⟨⟩ u w9 H1
              replace H2 : Hp _ _ _ _ _ := H1
              refine cond_split (fun hd' => ?_) (fun hd' => ?_)
              · exact ⟨by rw [less_yes (by omega) (by omega) hd']; rfl, H2.keeps⟩
              · exact ⟨(), trivial, hd', H2.forget⟩
        · rintro ⟨⟩ u w9 ⟨hd', H1⟩
          exact ⟨d + 1, by show cols - (d + 1) < cols - d; omega, ⟨up (by omega), trivial⟩, ⟨by show d + 1 ≤ cols; omega, lt_snoc hno hd'⟩, H1⟩
      · exact ⟨(), trivial, less_nil (by omega), H⟩
    · iterate 3 refine cond_no (decide_eq_false (by assumption)) ?_
      refine cond_no rfl ?_
      exact ⟨(), trivial, less_no fun d' hd' => hno d' (by omega), H⟩
  · rintro ⟨⟩ u w2 ⟨hno, H1⟩
    exact ⟨by rw [hno]; rfl, H1.keeps⟩
end Go.Proofs.Ytjebpngdinbckaa
end

section
/- Coverings: Take and Columns of the reference. -/
namespace Go.Proofs.Ytjebpngdinbckaa
open Go.Dk
attribute [local irreducible] IntKind.wrap

/-- Headers of rows that lie in S. -/
def hsOk (S : Nat → Prop) (w : World) (hs : List Value) (Q : Mat) : Prop := hs.length = Q.length ∧ ∀ (j : Nat) (u : Value) (ks : List Int), hs[j]? = some u → Q[j]? = some ks → rowV S w u ks
theorem hsOk.nil (S : Nat → Prop) (w : World) : hsOk S w [] [] := ⟨rfl, fun j u ks h => by simp at h⟩
theorem hsOk.snoc {S : Nat → Prop} {w : World} {hs : List Value} {Q : Mat} (h : hsOk S w hs Q) {u : Value} {ks : List Int} (hu : rowV S w u ks) : hsOk S w (hs ++ [u]) (Q ++ [ks]) := by
  obtain ⟨h1, h2⟩ := h
  refine ⟨by simp [h1], fun j v rs hj hrs => ?_⟩
  by_cases hjl : j < hs.length
  · rw [List.getElem?_append_left hjl] at hj
    rw [List.getElem?_append_left (by omega)] at hrs
    exact h2 j v rs hj hrs
  · rw [List.getElem?_append_right (by omega)] at hj hrs
    have hj0 : j - hs.length = 0 := by have := (List.getElem?_eq_some_iff.1 hj).1; simp at this; omega
    rw [← h1, hj0] at hrs
    rw [hj0] at hj
    simp at hj hrs
    subst hj; subst hrs
    exact hu
theorem rowV.mono {S S' : Nat → Prop} {w : World} {u : Value} {ks : List Int} (h : rowV S w u ks) (hS : ∀ g, S g → S' g) : rowV S' w u ks := by
  obtain ⟨B, c, hv, hs⟩ := h
  exact ⟨B, c, hv, sl.mono hs hS⟩
theorem rowV.stable {S : Nat → Prop} {w w' : World} {u : Value} {ks : List Int} (h : rowV S w u ks) (hS : ∀ g, S g → w'.heap[g]? = w.heap[g]?) : rowV S w' u ks := by
  obtain ⟨B, c, hv, hs⟩ := h
  exact ⟨B, c, hv, (sl _ _ _ _ _).stable _ _ hS hs⟩
theorem hsOk.stable {S : Nat → Prop} {w w' : World} {hs : List Value} {Q : Mat} (h : hsOk S w hs Q) (hS : ∀ g, S g → w'.heap[g]? = w.heap[g]?) : hsOk S w' hs Q :=
  ⟨h.1, fun j u ks hj hks => (h.2 j u ks hj hks).stable hS⟩
theorem hsOk.mono {S S' : Nat → Prop} {w : World} {hs : List Value} {Q : Mat} (h : hsOk S w hs Q) (hS : ∀ g, S g → S' g) : hsOk S' w hs Q :=
  ⟨h.1, fun j u ks hj hks => (h.2 j u ks hj hks).mono hS⟩
/-- Rows as a part that is read. -/
def rowsR (S : Nat → Prop) (hs : List Value) (Q : Mat) : Res := ⟨S, fun w => hsOk S w hs Q, fun _ _ h hok => hok.stable h⟩
/-- Own headers of rows: what is handed back. -/
theorem newM_of {w w' : World} {L M : List Res} {S S' : Nat → Prop} {B : Option Addr} {d n : Nat} {hs : List Value} {Q : Mat} (H : Hp w (fun _ => False) w' L M) (i : Nat) (hn : L[i]? = some (own 32 1 (.slice B n d) n hs))
    (hq : hsOk S' w' hs Q) (hS : ∀ g, S' g → g < w'.heap.size ∧ (w.heap.size ≤ g ∨ S g)) : NewM S w w' (.slice B n d) Q := by
  have hown := H.get i hn
  have hm := List.mem_of_getElem? hn
  have hlen : hs.length = n := by have := hown.1; omega
  have hnQ : n = Q.length := by rw [← hlen]; exact hq.1
  subst hnQ
  refine ⟨H.keeps, fun g => S' g ∨ (w.heap.size ≤ g ∧ g < w'.heap.size), ⟨B, d, hs, rfl, ?_, fun i u ks hu hks => ?_⟩, ?_⟩
  · exact sl.mono (own_sl hown) fun g hg => .inr ⟨(H.new _ hm g hg).resolve_right id, H.lt _ hm g hg⟩
  · obtain ⟨B', c', hv', hs'⟩ := hq.2 i u ks hu hks
    exact ⟨B', c', hv', sl.mono hs' fun g hg => .inl hg⟩
  · rintro g (hg | ⟨h1, h2⟩)
    · exact hS g hg
    · exact ⟨h2, .inl h1⟩
theorem newM_same {w w' : World} {S : Nat → Prop} {v : Value} {R : Mat} (hk : Same w w') (h : matOk S v R w) (hS : ∀ g, S g → g < w.heap.size) : NewM S w w' v R :=
  ⟨hk, S, (MatR S v R).stable _ _ (fun g hg => hk.old g (hS g hg) id) h, fun g hg => ⟨Nat.lt_of_lt_of_le (hS g hg) hk.size, .inr hg⟩⟩
/-- Headers that are those of rows at the call's begin. -/
theorem newM_old {w w' : World} {L M : List Res} {S : Nat → Prop} {B : Option Addr} {d n : Nat} {hs : List Value} {Q : Mat} (H : Hp w (fun _ => False) w' L M) (i : Nat) (hn : L[i]? = some (own 32 1 (.slice B n d) n hs))
    (hq : hsOk S w hs Q) (hS : ∀ g, S g → g < w.heap.size) : NewM S w w' (.slice B n d) Q :=
  newM_of H i hn (hq.stable fun g hg => H.keeps.old g (hS g hg) id) fun g hg => ⟨Nat.lt_of_lt_of_le (hS g hg) H.keeps.size, .inr hg⟩
/-- An own row is laid to the rows. -/
theorem _root_.Go.Dk.Hp.addRow {w0 w : World} {L M : List Res} {S : Nat → Prop} {hs : List Value} {Q : Mat} {v : Value} {ks : List Int} (H : Hp w0 (fun _ => False) w (own 3 1 v ks.length (intsI ks) :: L) (rowsR S hs Q :: M)) (hS : ∀ g, S g → w0.heap.size ≤ g) :
    ∃ S', Hp w0 (fun _ => False) w L (rowsR S' (hs ++ [v]) (Q ++ [ks]) :: M) ∧ ∀ g, S' g → w0.heap.size ≤ g := by
  have hown := H.get 0 rfl
  have hrow := H.ro 0 rfl
  have hnew := H.new _ (.head _)
  have H2 := H.freeze
  refine ⟨fun g => S g ∨ v.ownBlock = some g, (H2.addRO (Keeps.refl _ _) (rowsR (fun g => S g ∨ v.ownBlock = some g) (hs ++ [v]) (Q ++ [ks])) ?_ fun g hg => ⟨?_, .inr ?_⟩).weakenRO ?_, ?_⟩
  · obtain ⟨A, c, rfl, _⟩ := own_form hown
    exact hsOk.snoc (hrow.mono fun g hg => .inl hg) ⟨A, c, rfl, sl.mono (own_sl hown) fun g hg => .inr hg⟩
  · rcases hg with hg | hg
    · exact H2.rlt _ (.tail _ (.head _)) g hg
    · exact H2.rlt _ (.head _) g hg
  · rcases hg with hg | hg
    · exact ⟨_, .tail _ (.head _), hg⟩
    · exact ⟨_, .head _, hg⟩
  · intro r hr
    rcases List.mem_cons.1 hr with rfl | hr
    · exact .head _
    · exact .tail _ (.tail _ (.tail _ hr))
  · rintro g (hg | hg)
    · exact hS g hg
    · exact (hnew g hg).resolve_right id
theorem _root_.Go.Dk.Hp.noRows {w0 w : World} {F : Nat → Prop} {L M : List Res} (H : Hp w0 F w L M) : Hp w0 F w L (rowsR (fun _ => False) [] [] :: M) :=
  H.addRO (Keeps.refl _ _) _ (hsOk.nil _ _) fun g hg => hg.elim
theorem filter_snoc {R : Mat} {i : Nat} {x : List Int} (q : List Int → Bool) (hx : R[i]? = some x) : (R.take (i + 1)).filter q = (R.take i).filter q ++ (if q x then [x] else []) := by
  rw [List.take_add_one, hx, List.filter_append]
  cases h : q x <;> simp [h]
theorem ent86 : enters Try.prog 86 = true := by kernel_rfl
theorem c86 (R : Mat) (v1 : Value) (S : Nat → Prop) (w : World) (hl : R.length ≤ 1000000000) (hlr : ∀ r ∈ R, r.length ≤ 1000000000) (h1 : matOk S v1 R w) (hS : ∀ g, S g → g < w.heap.size) :
    Fun Try.prog 86 [v1] w fun v w' => ∃ v', v = .tuple #[v', .int .i64 (((takeS R).map (·.2)).getD 0), .bool (takeS R).isSome] ∧ NewM S w w' v' (((takeS R).map (·.1)).getD R) := by
  refine fun_of_W (N := 53) Try.func86 ent86 rfl rfl rfl (by simp) ?_
  have H := Hp.start0 w
  have h1' : MatAt w v1 R := MatR.mono h1 hS
  have h1o := h1
  obtain ⟨A, ca, va, rfl, ha0, hr0⟩ := h1o
  have ha : Sl w (.slice A R.length ca) 1 R.length va := sl.mono ha0 hS
  have hvl : va.length = R.length := by have := ha.1; omega
  have hrow : ∀ (i : Nat) (x : List Int), R[i]? = some x → ∃ Bx cx, va[i]? = some (.slice Bx x.length cx) ∧ rowV S w (.slice Bx x.length cx) x ∧ Sl w (.slice Bx x.length cx) 1 x.length (intsI x) := fun i x hx => by
    have hil := (List.getElem?_eq_some_iff.1 hx).1
    have hu : va[i]? = some (va[i]'(by omega)) := List.getElem?_eq_getElem (by omega)
    obtain ⟨Bx, cx, hux, hsx0⟩ := hr0 i _ x hu hx
    rw [hux] at hu
    exact ⟨Bx, cx, hu, ⟨Bx, cx, rfl, hsx0⟩, sl.mono hsx0 hS⟩
  refine cut_rule (γ := Unit) _ rfl (fun _ => []) (fun _ w' => Hp.cl H w') ⟨(), trivial, H⟩ ?_
  rintro ⟨⟩ u w0 H1
  replace H : Hp _ _ _ _ _ := H1
  clear H1
  refine cut_rule (γ := Unit) _ rfl (fun _ => []) (fun _ w' => (∀ r ∈ R, (r.length == 1) = false) ∧ Hp.cl H w') ?_ ?_
  · refine loop_rule (γ := Nat) _ rfl (fun i => [(5, .int .i64 (i : Int))]) (fun i w' => (i ≤ R.length ∧ ∀ r ∈ R.take i, (r.length == 1) = false) ∧ Hp.cl H w') (fun i => R.length - i) 0 ⟨rfl, trivial⟩ ⟨⟨Nat.zero_le _, by simp⟩, H⟩ ?_
    rintro i u w1 ⟨⟨hi, hno⟩, H1⟩
    replace H : Hp _ _ _ _ _ := H1
    clear H1
    refine len_sl Try.underlying89 ?_
    refine cond_dec (fun h7 => ?_) (fun h7 => ?_)
    · obtain ⟨x, hx⟩ : ∃ x, R[i]? = some x := ⟨_, List.getElem?_eq_getElem (by omega)⟩
      obtain ⟨g0, o0, rfl⟩ := ha.A (by omega)
      obtain ⟨Bx, cx, hget, hrx, hsx⟩ := hrow i x hx
      refine idxAddr_sl Try.underlying89 (s := 1) size32 i rfl (by omega) (o' := o0 + i) (by omega) ?_
      refine H.loadSl (i := i) ha aggrow _ rfl hget ?_
      refine len_sl Try.underlying32 ?_
      refine cond_beq (fun h8 => ?_) (fun h8 => ?_)
      · have hx1 : x.length = 1 := by omega
        obtain ⟨k, rfl⟩ : ∃ k, x = [k] := List.length_eq_one_iff.1 hx1
        have hfd : R.find? (fun r => r.length == 1) = some [k] := find_at hno hx (by rfl)
        have htake : takeS R = some (R.filter fun q => !decide (k ∈ q), k) := by unfold takeS; rw [hfd]; rfl
        rw [htake]
        obtain ⟨gx, ox, rfl⟩ := hsx.A (by simp)
        refine cut_rule (γ := Unit) _ rfl (fun _ => [(6, .slice none 0 0)]) (fun _ w' => Hp.cl H w') ⟨(), ⟨rfl, trivial⟩, H⟩ ?_
        rintro ⟨⟩ u w2 H1
        replace H : Hp _ _ _ _ _ := H1
        clear H1
        have H2 := H.ownNil 32 1
        refine cut_rule (γ := Option Addr × Nat × List Value) _ rfl (fun (B, d, hs) => [(6, .slice B hs.length d)]) (fun (B, d, hs) w' => hsOk S w hs (R.filter fun q => !decide (k ∈ q)) ∧ Hp w (fun _ => False) w' [own 32 1 (.slice B hs.length d) hs.length hs] []) ?_ ?_
        · refine loop_rule (γ := Nat × Option Addr × Nat × List Value) _ rfl (fun (j, B, d, hs) => [(7, .int .i64 (j : Int)), (6, .slice B hs.length d)])
            (fun (j, B, d, hs) w' => (j ≤ R.length ∧ hsOk S w hs ((R.take j).filter fun q => !decide (k ∈ q))) ∧ Hp w (fun _ => False) w' [own 32 1 (.slice B hs.length d) hs.length hs] []) (fun (j, _) => R.length - j) (0, none, 0, []) ⟨rfl, rfl, trivial⟩ ⟨⟨Nat.zero_le _, hsOk.nil _ _⟩, H2⟩ ?_
          clear H2 H
          rintro ⟨j, B, d, hs⟩ u w3 ⟨⟨hj, hh⟩, H⟩
          replace H : Hp _ _ _ _ _ := H
          refine len_sl Try.underlying89 ?_
          refine cond_dec (fun h9 => ?_) (fun h9 => ?_)
          · obtain ⟨y, hy⟩ : ∃ y, R[j]? = some y := ⟨_, List.getElem?_eq_getElem (by omega)⟩
            obtain ⟨By, cy, hgety, hry, hsy⟩ := hrow j y hy
            have hyl := hlr y (List.mem_of_getElem? hy)
            have hsn := filter_snoc (fun q => !decide (k ∈ q)) hy
            have hle : hs.length ≤ 1000000000 := by
              have := List.length_filter_le (fun q => !decide (k ∈ q)) (R.take j)
              rw [List.length_take] at this
              have := hh.1
              omega
            refine H.draw fol (by kernel_rfl) ?_
            clear H
            intro w4 H
            refine quiet _ (fun w H => idxAddr_sl Try.underlying89 (s := 1) size32 j rfl (by omega) (o' := o0 + j) (by omega) ⟨rfl, rfl⟩) ?_
            refine quiet _ (fun w H => H.loadSl (i := j) ha aggrow _ rfl hgety ⟨rfl, rfl⟩) ?_
            refine quiet _ (fun w H => idxAddr_sl Try.underlying89 (s := 1) size32 i rfl (by omega) (o' := o0 + i) (by omega) ⟨rfl, rfl⟩) ?_
            refine quiet _ (fun w H => H.loadSl (i := i) ha aggrow _ rfl hget ⟨rfl, rfl⟩) ?_
            refine quiet _ (fun w H => idxAddr_sl Try.underlying32 (s := 1) size3 0 rfl (by simp) (o' := ox) (by omega) ⟨rfl, rfl⟩) ?_
            refine quiet _ (fun w H => H.loadSl (i := 0) hsx agg3 _ rfl rfl ⟨rfl, rfl⟩) ?_
            refine call_fn (c127 y By cy k _ hyl (hsy.same H.keeps)) ?_
            rintro _ w5 ⟨rfl, hk⟩
            replace H := H.same hk
            clear hk
            refine ⟨.inl H, ?_⟩
            refine cond_split (fun hb => ?_) (fun hb => ?_)
            · rw [if_pos hb] at hsn
              refine idxAddr_sl Try.underlying89 (s := 1) size32 j rfl (by omega) (o' := o0 + j) (by omega) ?_
              refine H.loadSl (i := j) ha aggrow _ rfl hgety ?_
              refine H.buildOne T89 rfl ?_
              clear H
              intro g5 w6 H
              refine H.appendOne 0 T89 rfl rfl (by omega) (by omega) ?_
              clear H
              intro B2 d2 w7 H
              have hli : (hs ++ [Value.slice By y.length cy]).length = hs.length + 1 := by simp
              exact ⟨(j + 1, B2, d2, hs ++ [Value.slice By y.length cy]), by show R.length - (j + 1) < R.length - j; omega, ⟨up (by omega), by rw [hli]; rfl, trivial⟩, ⟨by show j + 1 ≤ R.length; omega, by rw [hsn]; exact hh.snoc hry⟩, by rw [hli]; exact H⟩
            · rw [if_neg (by rw [hb]; decide), List.append_nil] at hsn
              exact ⟨(j + 1, B, d, hs), by show R.length - (j + 1) < R.length - j; omega, ⟨up (by omega), rfl, trivial⟩, ⟨by show j + 1 ≤ R.length; omega, by rw [hsn]; exact hh⟩, H⟩
          · have : j = R.length := by omega
            subst this
            rw [List.take_length] at hh
            exact ⟨(B, d, hs), ⟨rfl, trivial⟩, hh, H⟩
        · clear H2 H
          rintro ⟨B, d, hs⟩ u w3 ⟨hh, H⟩
          replace H : Hp _ _ _ _ _ := H
          refine H.draw fol (by kernel_rfl) ?_
          clear H
          intro w4 H
          refine quiet _ (fun w H => idxAddr_sl Try.underlying89 (s := 1) size32 i rfl (by omega) (o' := o0 + i) (by omega) ⟨rfl, rfl⟩) ?_
          refine quiet _ (fun w H => H.loadSl (i := i) ha aggrow _ rfl hget ⟨rfl, rfl⟩) ?_
          refine quiet _ (fun w H => idxAddr_sl Try.underlying32 (s := 1) size3 0 rfl (by simp) (o' := ox) (by omega) ⟨rfl, rfl⟩) ?_
          refine quiet _ (fun w H => H.loadSl (i := 0) hsx agg3 _ rfl rfl ⟨rfl, rfl⟩) ?_
          exact ⟨_, rfl, newM_old H 0 rfl hh hS⟩
      · exact ⟨i + 1, by show R.length - (i + 1) < R.length - i; omega, ⟨up (by omega), trivial⟩, ⟨by show i + 1 ≤ R.length; omega, no_snoc hno hx (by simp; omega)⟩, H⟩
    · have : i = R.length := by omega
      subst this
      rw [List.take_length] at hno
      exact ⟨(), trivial, hno, H⟩
  · rintro ⟨⟩ u w4 ⟨hno, H1⟩
    replace H : Hp _ _ _ _ _ := H1
    clear H1
    have htake : takeS R = none := by unfold takeS; rw [List.find?_eq_none.2 (fun y hy => by rw [hno y hy]; decide)]; rfl
    rw [htake]
    exact ⟨_, rfl, newM_same H.keeps h1 hS⟩
end Go.Proofs.Ytjebpngdinbckaa
end

section
/- Coverings: Rows of the reference. -/
namespace Go.Proofs.Ytjebpngdinbckaa
open Go.Dk
attribute [local irreducible] IntKind.wrap

theorem ref_dom {R : Mat} (hn : ∀ r ∈ R, r.Nodup) {i k : Nat} {x y : List Int} (hx : R[i]? = some x) (hy : R[k]? = some y) :
    ((withinB y x && !withinB x y) || ((decide (k < i) && withinB y x) && withinB x y)) = domR R i k := by
  rw [dom_at hx hy]
  by_cases hki : k = i
  · subst hki
    rw [hx] at hy
    injection hy with hy
    subst hy
    rw [decide_eq_false (Nat.lt_irrefl k)]
    simp
  · rw [dom_eq (hn y (List.mem_of_getElem? hy)) (hn x (List.mem_of_getElem? hx)), show (k != i) = true by simpa using hki, Bool.true_and]
theorem hsOk.erase {S : Nat → Prop} {w : World} {hs : List Value} {Q : Mat} (h : hsOk S w hs Q) (i : Nat) : hsOk S w (hs.eraseIdx i) (Q.eraseIdx i) := by
  obtain ⟨h1, h2⟩ := h
  refine ⟨by rw [List.length_eraseIdx, List.length_eraseIdx, h1], fun j u ks hj hks => ?_⟩
  rw [List.getElem?_eraseIdx] at hj hks
  split at hj
  · rename_i hlt
    rw [if_pos hlt] at hks
    exact h2 j u ks hj hks
  · rename_i hge
    rw [if_neg hge] at hks
    exact h2 (j + 1) u ks hj hks
theorem ent87 : enters Try.prog 87 = true := by kernel_rfl
theorem c87 (R : Mat) (v1 : Value) (S : Nat → Prop) (w : World) (hl : R.length ≤ 1000000000) (hlr : ∀ r ∈ R, r.length ≤ 1000000000) (hnd : ∀ r ∈ R, r.Nodup) (h1 : matOk S v1 R w) (hS : ∀ g, S g → g < w.heap.size) :
    Fun Try.prog 87 [v1] w fun v w' => ∃ v', v = .tuple #[v', .bool (rowsS R).isSome] ∧ NewM S w w' v' ((rowsS R).getD R) := by
  refine fun_of_W (N := 83) Try.func87 ent87 rfl rfl rfl (by simp) ?_
  have H := Hp.start0 w
  have h1' : MatAt w v1 R := MatR.mono h1 hS
  have h1o := h1
  obtain ⟨A, ca, va, rfl, ha0, hr0⟩ := h1o
  have ha : Sl w (.slice A R.length ca) 1 R.length va := sl.mono ha0 hS
  have hvl : va.length = R.length := by have := ha.1; omega
  have hva : hsOk S w va R := ⟨hvl, fun i u ks hu hks => hr0 i u ks hu hks⟩
  have hone : ∀ u ∈ va, u.oneCell' = true := fun u hu => by
    obtain ⟨i, hi, rfl⟩ := List.getElem_of_mem hu
    obtain ⟨B, c, hv, _⟩ := hr0 i _ (R[i]'(by omega)) (List.getElem?_eq_getElem hi) (List.getElem?_eq_getElem (by omega))
    rw [hv]; rfl
  have hrow : ∀ (i : Nat) (x : List Int), R[i]? = some x → ∃ Bx cx, va[i]? = some (.slice Bx x.length cx) ∧ rowV S w (.slice Bx x.length cx) x ∧ Sl w (.slice Bx x.length cx) 1 x.length (intsI x) := fun i x hx => by
    have hil := (List.getElem?_eq_some_iff.1 hx).1
    have hu : va[i]? = some (va[i]'(by omega)) := List.getElem?_eq_getElem (by omega)
    obtain ⟨Bx, cx, hux, hsx0⟩ := hr0 i _ x hu hx
    rw [hux] at hu
    exact ⟨Bx, cx, hu, ⟨Bx, cx, rfl, hsx0⟩, sl.mono hsx0 hS⟩
  refine cut_rule (γ := Unit) _ rfl (fun _ => []) (fun _ w' => Hp w (fun _ => False) w' [] []) ⟨(), trivial, H⟩ ?_
  rintro ⟨⟩ u w0 H1
  replace H : Hp _ _ _ _ _ := H1
  clear H1
  refine cut_rule (γ := Unit) _ rfl (fun _ => []) (fun _ w' => (∀ i, i < R.length → (List.range R.length).any (domR R i) = false) ∧ Hp w (fun _ => False) w' [] []) ?_ ?_
  · refine loop_rule (γ := Nat) _ rfl (fun i => [(4, .int .i64 (i : Int))]) (fun i w' => (i ≤ R.length ∧ ∀ i', i' < i → (List.range R.length).any (domR R i') = false) ∧ Hp w (fun _ => False) w' [] []) (fun i => R.length - i) 0 ⟨rfl, trivial⟩ ⟨⟨Nat.zero_le _, fun i' h => by omega⟩, H⟩ ?_
    rintro i u w1 ⟨⟨hi, hno⟩, H1⟩
    replace H : Hp _ _ _ _ _ := H1
    clear H1
    refine len_sl Try.underlying89 ?_
    refine cond_dec (fun h7 => ?_) (fun h7 => ?_)
    · obtain ⟨x, hx⟩ : ∃ x, R[i]? = some x := ⟨_, List.getElem?_eq_getElem (by omega)⟩
      obtain ⟨g0, o0, rfl⟩ := ha.A (by omega)
      obtain ⟨Bx, cx, hget, hrx, hsx⟩ := hrow i x hx
      have hxl := hlr x (List.mem_of_getElem? hx)
      refine cut_rule (γ := Unit) _ rfl (fun _ => []) (fun _ w' => (∀ k, k < R.length → domR R i k = false) ∧ Hp w (fun _ => False) w' [] []) ?_ ?_
      · refine loop_rule (γ := Nat) _ rfl (fun k => [(5, .int .i64 (k : Int))]) (fun k w' => (k ≤ R.length ∧ ∀ k', k' < k → domR R i k' = false) ∧ Hp w (fun _ => False) w' [] []) (fun k => R.length - k) 0 ⟨rfl, trivial⟩ ⟨⟨Nat.zero_le _, fun i' h => by omega⟩, H⟩ ?_
        rintro k u w2 ⟨⟨hkk, hnk⟩, H1⟩
        replace H : Hp _ _ _ _ _ := H1
        clear H1
        refine len_sl Try.underlying89 ?_
        refine cond_dec (fun h8 => ?_) (fun h8 => ?_)
        · obtain ⟨y, hy⟩ : ∃ y, R[k]? = some y := ⟨_, List.getElem?_eq_getElem (by omega)⟩
          obtain ⟨By, cy, hgety, hry, hsy⟩ := hrow k y hy
          have hyl := hlr y (List.mem_of_getElem? hy)
          have hdom := ref_dom hnd hx hy
          refine cut_rule (γ := Unit) _ rfl (fun _ => []) (fun _ w' => domR R i k = false ∧ Hp w (fun _ => False) w' [] []) ?_ ?_
          · refine cut_rule (γ := Unit) _ rfl (fun _ => [(6, .bool (withinB y x && !withinB x y))]) (fun _ w' => Hp w (fun _ => False) w' [] []) ?_ ?_
            · refine H.draw fol (by kernel_rfl) ?_
              clear H
              intro w3 H
              refine quiet _ (fun w H => idxAddr_sl Try.underlying89 (s := 1) size32 k rfl (by omega) (o' := o0 + k) (by omega) ⟨rfl, rfl⟩) ?_
              refine quiet _ (fun w H => H.loadSl (i := k) ha aggrow _ rfl hgety ⟨rfl, rfl⟩) ?_
              refine quiet _ (fun w H => idxAddr_sl Try.underlying89 (s := 1) size32 i rfl (by omega) (o' := o0 + i) (by omega) ⟨rfl, rfl⟩) ?_
              refine quiet _ (fun w H => H.loadSl (i := i) ha aggrow _ rfl hget ⟨rfl, rfl⟩) ?_
              refine call_fn (c177 y x By Bx cy cx _ hyl hxl (hsy.same H.keeps) (hsx.same H.keeps)) ?_ 
              rintro _ w10 ⟨rfl, hk10⟩ 
              replace H := H.same hk10 
              clear hk10 
              refine ⟨.inl H, ?_⟩
              refine cond_split (fun h11 => ?_) (fun h11 => ?_)
              · refine cond_yes (by assumption) ?_
                refine cond_yes (by assumption) ?_
                refine quiet _ (fun w H => idxAddr_sl Try.underlying89 (s := 1) size32 i rfl (by omega) (o' := o0 + i) (by omega) ⟨rfl, rfl⟩) ?_
                refine cond_yes (by assumption) ?_
                refine quiet _ (fun w H => H.loadSl (i := i) ha aggrow _ rfl hget ⟨rfl, rfl⟩) ?_
                iterate 3 refine cond_yes (by assumption) ?_
                refine quiet _ (fun w H => idxAddr_sl Try.underlying89 (s := 1) size32 k rfl (by omega) (o' := o0 + k) (by omega) ⟨rfl, rfl⟩) ?_
                refine cond_yes (by assumption) ?_
                refine quiet _ (fun w H => H.loadSl (i := k) ha aggrow _ rfl hgety ⟨rfl, rfl⟩) ?_
                refine cond_yes (by assumption) ?_
                refine call_fn (c177 x y Bx By cx cy _ hxl hyl (hsx.same H.keeps) (hsy.same H.keeps)) ?_ 
                rintro _ w24 ⟨rfl, hk24⟩ 
                replace H := H.same hk24 
                clear hk24 
                refine ⟨.inl H, ?_⟩
                iterate 2 refine cond_yes (by assumption) ?_
                exact ⟨(), ⟨by rw [h11]; rfl, trivial⟩, H⟩
              · refine cond_no (by assumption) ?_
                iterate 9 refine cond_no (by assumption) ?_
                exact ⟨(), ⟨by rw [h11]; rfl, trivial⟩, H⟩
            · rintro ⟨⟩ u w3 H1
              replace H : Hp _ _ _ _ _ := H1
              clear H1
              refine cut_rule (γ := Unit) _ rfl (fun _ => [(7, .bool ((decide (k < i) && withinB y x) && withinB x y))]) (fun _ w' => Hp w (fun _ => False) w' [] []) ?_ ?_
              · refine H.draw fol (by kernel_rfl) ?_
                clear H
                intro w4 H
                refine cond_dec (fun h5 => ?_) (fun h5 => ?_)
                · refine cond_yes (decide_eq_true (by assumption)) ?_
                  refine cond_yes (decide_eq_true (by assumption)) ?_
                  refine quiet _ (fun w H => idxAddr_sl Try.underlying89 (s := 1) size32 k rfl (by omega) (o' := o0 + k) (by omega) ⟨rfl, rfl⟩) ?_
                  refine cond_yes (decide_eq_true (by assumption)) ?_
                  refine quiet _ (fun w H => H.loadSl (i := k) ha aggrow _ rfl hgety ⟨rfl, rfl⟩) ?_
                  iterate 3 refine cond_yes (decide_eq_true (by assumption)) ?_
                  refine quiet _ (fun w H => idxAddr_sl Try.underlying89 (s := 1) size32 i rfl (by omega) (o' := o0 + i) (by omega) ⟨rfl, rfl⟩) ?_
                  refine cond_yes (decide_eq_true (by assumption)) ?_
                  refine quiet _ (fun w H => H.loadSl (i := i) ha aggrow _ rfl hget ⟨rfl, rfl⟩) ?_
                  refine cond_yes (decide_eq_true (by assumption)) ?_
                  refine call_fn (c177 y x By Bx cy cx _ hyl hxl (hsy.same H.keeps) (hsx.same H.keeps)) ?_ 
                  rintro _ w20 ⟨rfl, hk20⟩ 
                  replace H := H.same hk20 
                  clear hk20 
                  refine ⟨.inl H, ?_⟩
                  refine cond_yes (decide_eq_true (by assumption)) ?_
                  refine cond_split (fun h22 => ?_) (fun h22 => ?_)
                  · refine cond_yes (by assumption) ?_
                    refine cond_yes (by assumption) ?_
                    refine quiet _ (fun w H => idxAddr_sl Try.underlying89 (s := 1) size32 i rfl (by omega) (o' := o0 + i) (by omega) ⟨rfl, rfl⟩) ?_
                    refine cond_yes (by assumption) ?_
                    refine quiet _ (fun w H => H.loadSl (i := i) ha aggrow _ rfl hget ⟨rfl, rfl⟩) ?_
                    iterate 3 refine cond_yes (by assumption) ?_
                    refine quiet _ (fun w H => idxAddr_sl Try.underlying89 (s := 1) size32 k rfl (by omega) (o' := o0 + k) (by omega) ⟨rfl, rfl⟩) ?_
                    refine cond_yes (by assumption) ?_
                    refine quiet _ (fun w H => H.loadSl (i := k) ha aggrow _ rfl hgety ⟨rfl, rfl⟩) ?_
                    refine cond_yes (by assumption) ?_
                    refine call_fn (c177 x y Bx By cx cy _ hxl hyl (hsx.same H.keeps) (hsy.same H.keeps)) ?_ 
                    rintro _ w35 ⟨rfl, hk35⟩ 
                    replace H := H.same hk35 
                    clear hk35 
                    refine ⟨.inl H, ?_⟩
                    refine cond_yes (by assumption) ?_
                    exact ⟨(), ⟨by rw [decide_eq_true (show k < i by omega), h22]; rfl, trivial⟩, H⟩
                  · refine cond_no (by assumption) ?_
                    iterate 8 refine cond_no (by assumption) ?_
                    exact ⟨(), ⟨by rw [decide_eq_true (show k < i by omega), h22]; rfl, trivial⟩, H⟩
                · refine cond_no (decide_eq_false (by assumption)) ?_
                  iterate 8 refine cond_no (decide_eq_false (by assumption)) ?_
                  iterate 10 refine cond_no rfl ?_
                  exact ⟨(), ⟨by rw [decide_eq_false (show ¬ k < i by omega)]; rfl, trivial⟩, H⟩
              · rintro ⟨⟩ u w4 H1
                replace H : Hp _ _ _ _ _ := H1
                clear H1
                refine cut_rule (γ := Unit) _ rfl (fun _ => [(70, .bool (domR R i k))]) (fun _ w' => Hp w (fun _ => False) w' [] []) ?_ ?_
                · refine cond_split (fun h5 => ?_) (fun h5 => ?_)
                  · refine cond_yes (by assumption) ?_
                    exact ⟨(), ⟨by rw [← hdom, h5]; rfl, trivial⟩, H⟩
                  · refine cond_no (by assumption) ?_
                    exact ⟨(), ⟨by rw [← hdom, h5, Bool.false_or]; rfl, trivial⟩, H⟩
                · rintro ⟨⟩ u w5 H1
                  replace H : Hp _ _ _ _ _ := H1
                  refine cond_split (fun hd => ?_) (fun hd => ⟨(), trivial, hd, H⟩)
                  rw [rows_found hno (by omega) (by omega) hd]
                  clear H1
                  refine Hp.buildNil H T89 ?_
                  clear H
                  intro g5 w6 H
                  refine (ha.same H.keeps).sliceTo Try.underlying89 size32 rfl (by omega) ?_
                  intro A1 c1 hsl1
                  refine H.appendSl 0 T89 rfl hsl1 (fun u hu => hone u (List.mem_of_mem_take hu)) (by omega) (by omega) ?_
                  clear H
                  intro B1 d1 w7 H
                  refine (ha.same H.keeps).sliceFrom (i := i + 1) Try.underlying89 size32 (by rw [wrap_i64_in (by omega) (by omega)]; omega) (by omega) ?_
                  intro A2 c2 hsl2
                  refine H.appendSl 0 T89 rfl hsl2 (fun u hu => hone u (List.mem_of_mem_drop hu)) (by omega) (by omega) ?_
                  clear H
                  intro B2 d2 w8 H
                  have he := hva.erase i
                  rw [List.eraseIdx_eq_take_drop_succ] at he
                  refine ⟨_, rfl, newM_old H 0 rfl ?_ hS⟩
                  rw [Nat.mul_one, Nat.mul_one, List.nil_append]
                  exact he
          · rintro ⟨⟩ u w3 ⟨hdk, H1⟩
            exact ⟨k + 1, by show R.length - (k + 1) < R.length - k; omega, ⟨up (by omega), trivial⟩, ⟨by show k + 1 ≤ R.length; omega, lt_snoc hnk hdk⟩, H1⟩
        · have : k = R.length := by omega
          subst this
          exact ⟨(), trivial, hnk, H⟩
      · rintro ⟨⟩ u w5 ⟨hdk, H1⟩
        exact ⟨i + 1, by show R.length - (i + 1) < R.length - i; omega, ⟨up (by omega), trivial⟩, ⟨by show i + 1 ≤ R.length; omega, lt_snoc hno (any_no hdk)⟩, H1⟩
    · have : i = R.length := by omega
      subst this
      exact ⟨(), trivial, hno, H⟩
  · rintro ⟨⟩ u w4 ⟨hno, H1⟩
    replace H : Hp _ _ _ _ _ := H1
    clear H1
    rw [rows_none hno]
    exact ⟨_, rfl, newM_same H.keeps h1 hS⟩
end Go.Proofs.Ytjebpngdinbckaa
end

section
/- Coverings: Columns of the reference. -/
namespace Go.Proofs.Ytjebpngdinbckaa
open Go.Dk
attribute [local irreducible] IntKind.wrap

theorem cols_found {cols : Nat} {R : Mat} {c : Nat} (hno : ∀ c', c' < c → lessB cols R ((c' : Nat) : Int) = false) (hc : c < cols) (hd : lessB cols R (c : Int) = true) : colsS cols R = some (dropC R c) := by
  unfold colsS colsI
  rw [find_at (i := c) (x := c) (fun y hy => ?_) (by rw [List.getElem?_range hc]) hd]
  · rfl
  · rw [List.take_range, Nat.min_eq_left (by omega)] at hy
    exact hno y (List.mem_range.1 hy)
theorem cols_none {cols : Nat} {R : Mat} (hno : ∀ c, c < cols → lessB cols R ((c : Nat) : Int) = false) : colsS cols R = none := by
  unfold colsS colsI
  have : (List.range cols).find? (fun c : Nat => !(whereM R (c : Int)).isEmpty && (List.range cols).any fun d : Nat => domC R (c : Int) (d : Int)) = none := List.find?_eq_none.2 fun y hy => by
    have h := hno y (List.mem_range.1 hy)
    unfold lessB at h
    rw [h]; decide
  rw [this]; rfl
theorem drop_snoc {R : Mat} {i : Nat} {x : List Int} {c : Int} (hx : R[i]? = some x) : dropC (R.take (i + 1)) c = dropC (R.take i) c ++ [x.filter fun k => k != c] := by
  unfold dropC
  rw [List.take_add_one, hx, List.map_append]; rfl
theorem filt_snoc {l : List Int} {i : Nat} {x : Int} (q : Int → Bool) (hx : l[i]? = some x) : (l.take (i + 1)).filter q = (l.take i).filter q ++ (if q x then [x] else []) := by
  rw [List.take_add_one, hx, List.filter_append]
  cases h : q x <;> simp [h]
theorem intsI_snoc (l : List Int) (x : Int) : intsI (l ++ [x]) = intsI l ++ [.int .i64 x] := by simp [intsI]
theorem ent88 : enters Try.prog 88 = true := by kernel_rfl
theorem c88 (R : Mat) (cols : Nat) (v1 : Value) (S : Nat → Prop) (w : World) (hl : R.length ≤ 1000000000) (hcl : cols ≤ 1000000000) (hlr : ∀ r ∈ R, r.length ≤ 1000000000) (h1 : matOk S v1 R w) (hS : ∀ g, S g → g < w.heap.size) :
    Fun Try.prog 88 [v1, .int .i64 (cols : Int)] w fun v w' => ∃ v', v = .tuple #[v', .bool (colsS cols R).isSome] ∧ NewM S w w' v' ((colsS cols R).getD R) := by
  refine fun_of_W (N := 60) Try.func88 ent88 rfl rfl rfl (by simp) ?_
  have H := Hp.start0 w
  have h1' : MatAt w v1 R := MatR.mono h1 hS
  obtain ⟨A, ca, va, rfl, ha, hra⟩ := h1'.openM
  refine cut_rule (γ := Unit) _ rfl (fun _ => []) (fun _ w' => Hp.cl H w') ⟨(), trivial, H⟩ ?_
  rintro ⟨⟩ u w0 H1
  replace H : Hp _ _ _ _ _ := H1
  clear H1
  refine cut_rule (γ := Unit) _ rfl (fun _ => []) (fun _ w' => (∀ c, c < cols → lessB cols R ((c : Nat) : Int) = false) ∧ Hp w (fun _ => False) w' [] []) ?_ ?_
  · refine loop_rule (γ := Nat) _ rfl (fun c => [(6, .int .i64 (c : Int))]) (fun c w' => (c ≤ cols ∧ ∀ c', c' < c → lessB cols R ((c' : Nat) : Int) = false) ∧ Hp w (fun _ => False) w' [] []) (fun c => cols - c) 0 ⟨rfl, trivial⟩ ⟨⟨Nat.zero_le _, fun i' h => by omega⟩, H⟩ ?_
    clear H
    rintro c u w1 ⟨⟨hc, hno⟩, H⟩
    replace H : Hp _ _ _ _ _ := H
    refine cond_dec (fun h7 => ?_) (fun h7 => ?_)
    · refine call_fn (c178 R cols (c : Int) _ _ hl hcl hlr (h1'.same H.keeps)) ?_
      rintro _ w2 ⟨rfl, hk⟩
      replace H := H.same hk
      clear hk
      refine cond_split (fun hd => ?_) (fun hd => ?_)
      · rw [cols_found hno (by omega) hd]
        refine cut_rule (γ := Unit) _ rfl (fun _ => [(7, .slice none 0 0)]) (fun _ w' => Hp.cl H w') ⟨(), ⟨rfl, trivial⟩, H⟩ ?_
        rintro ⟨⟩ u w3 H1
        replace H : Hp _ _ _ _ _ := H1
        clear H1
        have H2 := (H.ownNil 32 1).noRows
        clear H
        refine cut_rule (γ := Option Addr × Nat × List Value × (Nat → Prop)) _ rfl (fun (B, d, hs, _) => [(7, .slice B hs.length d)])
          (fun (B, d, hs, S') w' => (∀ g, S' g → w.heap.size ≤ g) ∧ Hp w (fun _ => False) w' [own 32 1 (.slice B hs.length d) hs.length hs] [rowsR S' hs (dropC R (c : Int))]) ?_ ?_
        · refine loop_rule (γ := Nat × Option Addr × Nat × List Value × (Nat → Prop)) _ rfl (fun (i, B, d, hs, _) => [(8, .int .i64 (i : Int)), (7, .slice B hs.length d)])
            (fun (i, B, d, hs, S') w' => (i ≤ R.length ∧ hs.length = i ∧ ∀ g, S' g → w.heap.size ≤ g) ∧ Hp w (fun _ => False) w' [own 32 1 (.slice B hs.length d) hs.length hs] [rowsR S' hs (dropC (R.take i) (c : Int))])
            (fun (i, _) => R.length - i) (0, none, 0, [], fun _ => False) ⟨rfl, rfl, trivial⟩ ⟨⟨Nat.zero_le _, rfl, fun g h => h.elim⟩, H2⟩ ?_
          clear H2
          rintro ⟨i, B, d, hs, S'⟩ u w4 ⟨⟨hi, hhl, hS'⟩, H⟩
          replace H : Hp _ _ _ _ _ := H
          refine len_sl Try.underlying89 ?_
          refine cond_dec (fun h8 => ?_) (fun h8 => ?_)
          · obtain ⟨x, hx⟩ : ∃ x, R[i]? = some x := ⟨_, List.getElem?_eq_getElem (by omega)⟩
            obtain ⟨g0, o0, rfl⟩ := ha.A (by omega)
            obtain ⟨Bx, cx, hget, hsx⟩ := hra i x hx
            have hxl := hlr x (List.mem_of_getElem? hx)
            refine cut_rule (γ := Option Addr × Nat × Nat × List Value × Option Addr × (Nat → Prop)) _ rfl (fun (B, d, n, _) => [(7, .slice B n d)])
              (fun (B, d, n, hs', _, S2) w' => (n = hs'.length ∧ n = i + 1 ∧ ∀ g, S2 g → w.heap.size ≤ g) ∧ Hp w (fun _ => False) w' [own 32 1 (.slice B n d) n hs'] [rowsR S2 hs' (dropC (R.take (i + 1)) (c : Int))]) ?_ ?_
            · refine cut_rule (γ := Unit) _ rfl (fun _ => [(9, .slice none 0 0)]) (fun _ w' => Hp.cl H w') ⟨(), ⟨rfl, trivial⟩, H⟩ ?_
              rintro ⟨⟩ u w5 H1
              replace H : Hp _ _ _ _ _ := H1
              clear H1
              have H2 := H.ownNil 3 1
              clear H
              refine cut_rule (γ := Option Addr × Nat) _ rfl (fun (B2, d2) => [(9, .slice B2 (x.filter fun k => k != (c : Int)).length d2)])
                (fun (B2, d2) w' => Hp w (fun _ => False) w' [own 3 1 (.slice B2 (x.filter fun k => k != (c : Int)).length d2) (x.filter fun k => k != (c : Int)).length (intsI (x.filter fun k => k != (c : Int))), own 32 1 (.slice B hs.length d) hs.length hs] [rowsR S' hs (dropC (R.take i) (c : Int))]) ?_ ?_
              · refine loop_rule (γ := Nat × Option Addr × Nat) _ rfl (fun (j, B2, d2) => [(10, .int .i64 (j : Int)), (9, .slice B2 ((x.take j).filter fun k => k != (c : Int)).length d2)])
                  (fun (j, B2, d2) w' => j ≤ x.length ∧ Hp w (fun _ => False) w' [own 3 1 (.slice B2 ((x.take j).filter fun k => k != (c : Int)).length d2) ((x.take j).filter fun k => k != (c : Int)).length (intsI ((x.take j).filter fun k => k != (c : Int))), own 32 1 (.slice B hs.length d) hs.length hs] [rowsR S' hs (dropC (R.take i) (c : Int))])
                  (fun (j, _) => x.length - j) (0, none, 0) ⟨rfl, rfl, trivial⟩ ⟨Nat.zero_le _, H2⟩ ?_
                clear H2
                rintro ⟨j, B2, d2⟩ u w6 ⟨hj, H⟩
                replace H : Hp _ _ _ _ _ := H
                refine idxAddr_sl Try.underlying89 (s := 1) size32 i rfl (by omega) (o' := o0 + i) (by omega) ?_
                refine H.loadSl (i := i) ha aggrow _ rfl hget ?_
                refine len_sl Try.underlying32 ?_
                refine cond_dec (fun h9 => ?_) (fun h9 => ?_)
                · obtain ⟨k, hk⟩ : ∃ k, x[j]? = some k := ⟨_, List.getElem?_eq_getElem (by omega)⟩
                  obtain ⟨g2, o2, rfl⟩ := hsx.A (by omega)
                  have hgk : (intsI x)[j]? = some (.int .i64 k) := by rw [intsI, List.getElem?_map, hk]; rfl
                  have hsn := filt_snoc (fun k => k != (c : Int)) hk
                  have hfl := List.length_filter_le (fun k => k != (c : Int)) (x.take j)
                  rw [List.length_take] at hfl
                  refine idxAddr_sl Try.underlying89 (s := 1) size32 i rfl (by omega) (o' := o0 + i) (by omega) ?_
                  refine H.loadSl (i := i) ha aggrow _ rfl hget ?_
                  refine idxAddr_sl Try.underlying32 (s := 1) size3 j rfl (by omega) (o' := o2 + j) (by omega) ?_
                  refine H.loadSl (i := j) hsx agg3 _ rfl hgk ?_
                  refine cond_split (fun hb => ?_) (fun hb => ?_)
                  · rw [if_pos hb] at hsn
                    refine idxAddr_sl Try.underlying89 (s := 1) size32 i rfl (by omega) (o' := o0 + i) (by omega) ?_
                    refine H.loadSl (i := i) ha aggrow _ rfl hget ?_
                    refine idxAddr_sl Try.underlying32 (s := 1) size3 j rfl (by omega) (o' := o2 + j) (by omega) ?_
                    refine H.loadSl (i := j) hsx agg3 _ rfl hgk ?_
                    refine H.buildOne T32 rfl ?_
                    clear H
                    intro g7 w7 H
                    refine H.appendOne 0 T32 rfl rfl (by omega) (by omega) ?_
                    clear H
                    intro B3 d3 w8 H
                    have e1 : ((x.take (j + 1)).filter fun k => k != (c : Int)).length = ((x.take j).filter fun k => k != (c : Int)).length + 1 := by rw [hsn]; simp
                    have e2 : intsI ((x.take (j + 1)).filter fun k => k != (c : Int)) = intsI ((x.take j).filter fun k => k != (c : Int)) ++ [.int .i64 k] := by rw [hsn, intsI_snoc]
                    exact ⟨(j + 1, B3, d3), by show x.length - (j + 1) < x.length - j; omega, ⟨up (by omega), by rw [e1]; rfl, trivial⟩, by show j + 1 ≤ x.length; omega, by rw [e1, e2]; exact H⟩
                  · rw [if_neg (by rw [hb]; decide), List.append_nil] at hsn
                    exact ⟨(j + 1, B2, d2), by show x.length - (j + 1) < x.length - j; omega, ⟨up (by omega), by rw [hsn]; rfl, trivial⟩, by show j + 1 ≤ x.length; omega, by rw [hsn]; exact H⟩
                · have e : x.take j = x := List.take_of_length_le (by omega)
                  rw [e] at H
                  exact ⟨(B2, d2), ⟨congrArg (fun l : List Int => Value.slice B2 (l.filter fun k => k != (c : Int)).length d2) e, trivial⟩, H⟩
              · clear H2
                rintro ⟨B2, d2⟩ u w6 H
                replace H : Hp _ _ _ _ _ := H
                refine H.buildOne T89 rfl ?_
                clear H
                intro g7 w7 H
                refine H.appendOne 1 T89 rfl rfl (by omega) (by omega) ?_
                clear H
                intro B3 d3 w8 H
                obtain ⟨S2, H3, hS2⟩ := H.addRow hS'
                rw [← drop_snoc hx] at H3
                exact ⟨(B3, d3, hs.length + 1, _, none, S2), ⟨rfl, trivial⟩, ⟨by simp, by omega, hS2⟩, H3⟩
            · clear H
              rintro ⟨B3, d3, n, hs3, _, S2⟩ u w5 ⟨⟨rfl, hn1, hS2⟩, H⟩
              exact ⟨(i + 1, B3, d3, hs3, S2), by show R.length - (i + 1) < R.length - i; omega, ⟨up (by omega), rfl, trivial⟩, ⟨by show i + 1 ≤ R.length; omega, hn1, hS2⟩, H⟩
          · have : i = R.length := by omega
            subst this
            rw [List.take_length] at H
            exact ⟨(B, d, hs, S'), ⟨rfl, trivial⟩, hS', H⟩
        · clear H2
          rintro ⟨B, d, hs, S'⟩ u w4 ⟨hS', H⟩
          replace H : Hp _ _ _ _ _ := H
          exact ⟨_, rfl, newM_of H 0 rfl (H.ro 0 rfl) fun g hg => ⟨H.rlt _ (.head _) g hg, .inl (hS' g hg)⟩⟩
      · exact ⟨c + 1, by show cols - (c + 1) < cols - c; omega, ⟨up (by omega), trivial⟩, ⟨by show c + 1 ≤ cols; omega, lt_snoc hno hd⟩, H⟩
    · have : c = cols := by omega
      subst this
      exact ⟨(), trivial, hno, H⟩
  · clear H
    rintro ⟨⟩ u w4 ⟨hno, H⟩
    replace H : Hp _ _ _ _ _ := H
    rw [cols_none hno]
    exact ⟨_, rfl, newM_same H.keeps h1 hS⟩
end Go.Proofs.Ytjebpngdinbckaa
end

section
/- Coverings: Columns. -/
namespace Go.Proofs.Ytjebpngdinbckaa
open Go.Dk
attribute [local irreducible] IntKind.wrap

def kaI (c : Int) : Value := .int .i64 c
theorem kaI_inj (a b : Int) (h : kaI a = kaI b) : a = b := by injection h
theorem KL3 : KL Try.prog 3 fun v => ∃ a, v = kaI a := (KL.of_now Try.underlying3).mono fun v ⟨a, h⟩ => by subst h; exact rfl
theorem W208 : MapW Try.prog 208 3 32 kaI (fun v : Value => v) (.slice none 0 0) := ⟨Try.underlying208, KL3, kaI_inj, by kernel_rfl⟩
/-- Columns, as it is called. -/
def colsO (cols : Int) (R : Mat) : Option Mat := if rightB cols R then colsS cols.toNat R else none
theorem prog_test (R : Mat) (c d : Int) : ((d == c || !withinB (whereM R c) (whereM R d)) || (decide ((whereM R d).length = (whereM R c).length) && decide (d > c))) = !progC R c d := by
  unfold progC
  have h1 : (d == c) = !(d != c) := by simp [bne]
  rw [h1]
  have h2 : decide (d > c) = decide (c < d) := rfl
  rw [h2]
  cases (d != c) <;> cases withinB (whereM R c) (whereM R d) <;> simp
theorem where_head {R : Mat} {c : Int} (h : (whereM R c).length ≠ 0) : ∃ (n : Nat) (l : List Int), whereM R c = (n : Int) :: l ∧ n < R.length := by
  cases hw : whereM R c with
  | nil => rw [hw] at h; simp at h
  | cons i l =>
    obtain ⟨n, hn, rfl, _⟩ := where_mem.1 (show i ∈ whereM R c by rw [hw]; exact .head _)
    exact ⟨n, l, rfl, hn⟩
def partW (R : Mat) (c : Int) (i : Nat) (x : List Int) (j : Nat) : List Int := whereTo R c i ++ if c ∈ x.take j then [(i : Int)] else []
theorem part_zero (R : Mat) (c : Int) (i : Nat) (x : List Int) : partW R c i x 0 = whereTo R c i := by simp [partW]
theorem partW_full {R : Mat} {i : Nat} {x : List Int} (hx : R[i]? = some x) (c : Int) : partW R c i x x.length = whereTo R c (i + 1) := by
  unfold partW; rw [List.take_length, where_succ hx]
theorem part_step (R : Mat) (i : Nat) {x : List Int} (hn : x.Nodup) {j : Nat} {k : Int} (hk : x[j]? = some k) (c : Int) : partW R c i x (j + 1) = if c = k then partW R c i x j ++ [(i : Int)] else partW R c i x j := by
  have htk : x.take (j + 1) = x.take j ++ [k] := by rw [List.take_add_one, hk]; rfl
  have hkn : k ∉ x.take j := fun h => by
    obtain ⟨m, hm, he⟩ := List.getElem_of_mem h
    rw [List.length_take] at hm
    rw [List.getElem_take] at he
    have h1 : x[m]? = some k := by rw [List.getElem?_eq_getElem (by omega), he]
    have := (List.getElem?_inj (by omega) hn).1 (h1.trans hk.symm)
    omega
  unfold partW
  rw [htk]
  by_cases hc : c = k
  · subst hc
    rw [if_pos rfl, if_pos (List.mem_append_right _ (.head _)), if_neg hkn, List.append_nil]
  · rw [if_neg hc]
    have : (c ∈ x.take j ++ [k]) ↔ c ∈ x.take j := by simp [hc]
    by_cases h : c ∈ x.take j
    · rw [if_pos (this.2 h), if_pos h]
    · rw [if_neg (fun h' => h (this.1 h')), if_neg h]
theorem part_le (R : Mat) (c : Int) (i : Nat) (x : List Int) (j : Nat) : (partW R c i x j).length ≤ i + 1 := by
  have := whereTo_le R c i
  unfold partW
  split
  · simp; omega
  · simp; omega
theorem ent83 : enters Try.prog 83 = true := by kernel_rfl
theorem c83 (cols : Int) (R : Mat) (v1 : Value) (S : Nat → Prop) (w : World) (hl : R.length ≤ 1000000000) (hlr : ∀ r ∈ R, r.length ≤ 1000000000) (h1 : matOk S v1 R w) (hS : ∀ g, S g → g < w.heap.size) :
    Fun Try.prog 83 [mv cols v1] w fun v w' => ∃ v', v = .tuple #[mv cols v', .bool (colsO cols R).isSome] ∧ NewM S w w' v' ((colsO cols R).getD R) := by
  refine fun_of_W (N := 135) Try.func83 ent83 rfl rfl rfl (by simp) ?_
  have H := startM h1 hS
  have h1' : MatAt w v1 R := MatR.mono h1 hS
  obtain ⟨A, ca, va, rfl, ha, hra⟩ := h1'.openM
  refine H.box 91 (mv _ _) (cs := mc _ _) rfl ?_
  clear H
  intro g1 w1 H
  refine H.alloc 91 zero91 rfl ?_
  clear H
  intro g2 w2 H
  refine H.loadAll 1 rfl agg91 size91 ?_
  refine call_fn (c171 cols R _ _ hl hlr (h1'.same H.keeps)) ?_
  rintro _ w3 ⟨rfl, hk⟩
  replace H := H.same hk
  clear hk
  refine cond_split (fun hr => ?_) (fun hr => ?_)
  · have hno : colsO cols R = none := by unfold colsO; rw [if_neg]; simpa using hr
    rw [hno]
    refine H.loadAll 1 rfl agg91 size91 ?_
    refine H.storeAll 0 rfl size91 rfl (fun v hv => mc_one v hv) ?_
    clear H
    intro w4 H
    refine H.loadAll 0 rfl agg91 size91 ?_
    refine ⟨rfl, ?_⟩
    exact ⟨_, rfl, H.outM fun g hg => .inr hg⟩
  have hr' : rightB cols R = true := by simpa using hr
  have hright := rightB_iff.1 hr'
  obtain ⟨n, rfl⟩ : ∃ n : Nat, cols = n := ⟨cols.toNat, by have := hright.ge; omega⟩
  have hn4 : n ≤ 4000 := by have := hright.le; omega
  have htk : colsO (n : Int) R = colsS n R := by unfold colsO; rw [if_pos hr', Int.toNat_natCast]
  rw [htk]
  refine cut_rule (γ := Nat) _ rfl (fun r => [(4, .map (some r))]) (fun r w' => Hp w (fun _ => False) w' [msR kaI 3 r ([] : MsL Int), blk g2 91 (mv 0 (.slice none 0 0)).cells, blk g1 91 (mc n (.slice A R.length ca))] [MatR S (.slice A R.length ca) R]) ?_ ?_
  · refine H.msMake kaI 3 ?_
    clear H
    intro r w4 H
    exact ⟨r, ⟨rfl, trivial⟩, H⟩
  clear H
  rintro r u w4 H
  replace H : Hp _ _ _ _ _ := H
  refine cut_rule (γ := MsL Int) _ rfl (fun _ => []) (fun l w' => (∀ c, msX l c = intsI (whereM R c)) ∧ Hp w (fun _ => False) w' [msR kaI 3 r l, blk g2 91 (mv 0 (.slice none 0 0)).cells, blk g1 91 (mc n (.slice A R.length ca))] [MatR S (.slice A R.length ca) R]) ?_ ?_
  · refine fieldAddr_by (fa91_1 _) ?_
    refine H.load 2 rfl agg89 rfl ?_
    refine len_sl Try.underlying89 ?_
    refine loop_rule (γ := Nat × MsL Int) _ rfl (fun (i, _) => [(26, .int .i64 (i : Int))])
      (fun (i, l) w' => (i ≤ R.length ∧ ∀ c, msX l c = intsI (whereTo R c i)) ∧ Hp w (fun _ => False) w' [msR kaI 3 r l, blk g2 91 (mv 0 (.slice none 0 0)).cells, blk g1 91 (mc n (.slice A R.length ca))] [MatR S (.slice A R.length ca) R])
      (fun (i, _) => R.length - i) (0, []) ⟨rfl, trivial⟩ ⟨⟨Nat.zero_le _, fun c => rfl⟩, H⟩ ?_
    clear H
    rintro ⟨i, l⟩ u w5 ⟨⟨hi, hw⟩, H⟩
    replace H : Hp _ _ _ _ _ := H
    refine cond_dec (fun h7 => ?_) (fun h7 => ?_)
    · obtain ⟨x, hx⟩ : ∃ x, R[i]? = some x := ⟨_, List.getElem?_eq_getElem (by omega)⟩
      obtain ⟨g0, o0, rfl⟩ := ha.A (by omega)
      obtain ⟨Bx, cx, hget, hsx⟩ := hra i x hx
      have hxm := List.mem_of_getElem? hx
      have hxl := hlr x hxm
      have hxn := (hright.rise x hxm).nodup
      refine cut_rule (γ := MsL Int) _ rfl (fun _ => []) (fun l w' => (∀ c, msX l c = intsI (whereTo R c (i + 1))) ∧ Hp w (fun _ => False) w' [msR kaI 3 r l, blk g2 91 (mv 0 (.slice none 0 0)).cells, blk g1 91 (mc n (.slice (some ⟨g0, o0, none⟩) R.length ca))] [MatR S (.slice (some ⟨g0, o0, none⟩) R.length ca) R]) ?_ ?_
      · refine cut_rule (γ := Unit) _ rfl (fun _ => [(5, .int .i64 (i : Int)), (6, .slice Bx x.length cx)]) (fun _ w' => Hp.cl H w') ?_ ?_
        · refine idxAddr_sl Try.underlying89 (s := 1) size32 i rfl (by omega) (o' := o0 + i) (by omega) ?_
          refine H.loadSl (i := i) ha aggrow _ rfl hget ?_
          exact ⟨(), ⟨rfl, rfl, trivial⟩, H⟩
        rintro ⟨⟩ u w6 H1
        replace H : Hp _ _ _ _ _ := H1
        clear H1
        refine len_sl Try.underlying32 ?_
        refine loop_rule (γ := Nat × MsL Int) _ rfl (fun (j, _) => [(33, .int .i64 (j : Int))])
          (fun (j, l) w' => (j ≤ x.length ∧ ∀ c, msX l c = intsI (partW R c i x j)) ∧ Hp w (fun _ => False) w' [msR kaI 3 r l, blk g2 91 (mv 0 (.slice none 0 0)).cells, blk g1 91 (mc n (.slice (some ⟨g0, o0, none⟩) R.length ca))] [MatR S (.slice (some ⟨g0, o0, none⟩) R.length ca) R])
          (fun (j, _) => x.length - j) (0, l) ⟨rfl, trivial⟩ ⟨⟨Nat.zero_le _, fun c => by rw [part_zero]; exact hw c⟩, H⟩ ?_
        clear H hw
        rintro ⟨j, l⟩ u w7 ⟨⟨hj, hw⟩, H⟩
        replace H : Hp _ _ _ _ _ := H
        refine cond_dec (fun h8 => ?_) (fun h8 => ?_)
        · obtain ⟨k, hk⟩ : ∃ k, x[j]? = some k := ⟨_, List.getElem?_eq_getElem (by omega)⟩
          obtain ⟨g3, o3, rfl⟩ := hsx.A (by omega)
          have hgk : (intsI x)[j]? = some (.int .i64 k) := by rw [intsI, List.getElem?_map, hk]; rfl
          have hle := part_le R k i x j
          have hlen : (msX l k).length = (partW R k i x j).length := by rw [hw k]; simp [intsI]
          refine cut_rule (γ := MsL Int) _ rfl (fun _ => []) (fun l w' => (∀ c, msX l c = intsI (partW R c i x (j + 1))) ∧ Hp w (fun _ => False) w' [msR kaI 3 r l, blk g2 91 (mv 0 (.slice none 0 0)).cells, blk g1 91 (mc n (.slice (some ⟨g0, o0, none⟩) R.length ca))] [MatR S (.slice (some ⟨g0, o0, none⟩) R.length ca) R]) ?_ ?_
          · refine cut_rule (γ := Unit) _ rfl (fun _ => [(8, .int .i64 k)]) (fun _ w' => Hp.cl H w') ?_ ?_
            · refine idxAddr_sl Try.underlying32 (s := 1) size3 j rfl (by omega) (o' := o3 + j) (by omega) ?_
              refine H.loadSl (i := j) hsx agg3 _ rfl hgk ?_
              exact ⟨(), ⟨rfl, trivial⟩, H⟩
            rintro ⟨⟩ u w8 H1
            replace H : Hp _ _ _ _ _ := H1
            clear H1
            obtain ⟨A0, c0, hform⟩ := msR_form (H.get 0 rfl) k
            refine msLookup_at (H.get 0 rfl) W208 k ?_
            obtain ⟨v, xs, Ls, hv, hxs, H2, close⟩ := H.msOpen kaI_inj k
            subst hv; subst hxs
            clear H
            rw [hform] at H2 ⊢
            refine H2.buildOne T32 rfl ?_
            clear H2
            intro g9 w9 H2
            refine H2.appendOne 1 T32 rfl rfl (by omega) (by omega) ?_
            clear H2
            intro B2 d2 w10 H2
            refine H2.mapSet 0 rfl W208 k (.slice B2 ((msX l k).length + 1) d2) ?_
            clear H2
            intro w11 H2
            have e0 : (msX l k).length + 1 = (msX l k ++ [Value.int .i64 (i : Int)]).length := by simp
            rw [e0] at H2
            refine ⟨_, trivial, fun c => ?_, close _ _ _ H2⟩
            rw [msX_aset, part_step R i hxn hk]
            by_cases hc : c = k
            · rw [if_pos hc, if_pos hc, hc, hw k, intsI_snoc]
            · rw [if_neg hc, if_neg hc, hw c]
          · clear H hw
            rintro l2 u w8 ⟨hw, H⟩
            replace H : Hp _ _ _ _ _ := H
            exact ⟨(j + 1, l2), by show x.length - (j + 1) < x.length - j; omega, ⟨up (by omega), trivial⟩, ⟨by show j + 1 ≤ x.length; omega, hw⟩, H⟩
        · have : j = x.length := by omega
          subst this
          exact ⟨l, trivial, fun c => by rw [hw c, partW_full hx], H⟩
      · clear H hw
        rintro l2 u w6 ⟨hw, H⟩
        replace H : Hp _ _ _ _ _ := H
        exact ⟨(i + 1, l2), by show R.length - (i + 1) < R.length - i; omega, ⟨up (by omega), trivial⟩, ⟨by show i + 1 ≤ R.length; omega, hw⟩, H⟩
    · have : i = R.length := by omega
      subst this
      exact ⟨l, trivial, hw, H⟩
  clear H
  rintro l u w5 ⟨hw, H⟩
  replace H : Hp _ _ _ _ _ := H
  have hwl := where_len R
  have hlen : ∀ c, (msX l c).length = (whereM R c).length := fun c => by rw [hw c]; simp [intsI]
  have hmsl : ∀ u : World, (msR kaI 3 r l).ok u → ∀ c, ∃ A c', msV l c = .slice A (whereM R c).length c' ∧ Sl u (.slice A (whereM R c).length c') 1 (whereM R c).length (intsI (whereM R c)) := fun u hu c => by
    obtain ⟨A, c', h⟩ := msR_form hu c
    have ho := own_Sl (msR_own hu c)
    rw [h, hlen c, hw c] at ho
    rw [hlen c] at h
    exact ⟨A, c', h, ho⟩
  have hlook : ∀ (u : World) (c : Int) (A : Option Addr) (c' : Nat) (kk : Value → World → Prop), (msR kaI 3 r l).ok u → msV l c = .slice A (whereM R c).length c' → kk (.slice A (whereM R c).length c') u → lookupK Try.prog 208 (.map (some r)) (.int .i64 c) false u kk := fun u c A c' kk hu hv hkk =>
    msLookup_at hu W208 c (by rw [hv]; exact hkk)
  refine cut_rule (γ := Unit) _ rfl (fun _ => []) (fun _ w' => (∀ c, c < n → lessB n R ((c : Nat) : Int) = false) ∧ Hp w (fun _ => False) w' [msR kaI 3 r l, blk g2 91 (mv 0 (.slice none 0 0)).cells, blk g1 91 (mc n (.slice A R.length ca))] [MatR S (.slice A R.length ca) R]) ?_ ?_
  · refine fieldAddr_by (fa91_0 _) ?_
    refine H.load 2 rfl agg3 rfl ?_
    refine loop_rule (γ := Nat) _ rfl (fun c => [(49, .int .i64 (c : Int))]) (fun c w' => (c ≤ n ∧ ∀ c', c' < c → lessB n R ((c' : Nat) : Int) = false) ∧ Hp w (fun _ => False) w' [msR kaI 3 r l, blk g2 91 (mv 0 (.slice none 0 0)).cells, blk g1 91 (mc n (.slice A R.length ca))] [MatR S (.slice A R.length ca) R]) (fun c => n - c) 0 ⟨rfl, trivial⟩ ⟨⟨Nat.zero_le _, fun i' h => by omega⟩, H⟩ ?_
    clear H
    rintro c u w6 ⟨⟨hc, hno⟩, H⟩
    replace H : Hp _ _ _ _ _ := H
    refine cond_dec (fun h7 => ?_) (fun h7 => ?_)
    · refine cut_rule (γ := Unit) _ rfl (fun _ => []) (fun _ w' => lessB n R (c : Int) = false ∧ Hp w (fun _ => False) w' [msR kaI 3 r l, blk g2 91 (mv 0 (.slice none 0 0)).cells, blk g1 91 (mc n (.slice A R.length ca))] [MatR S (.slice A R.length ca) R]) ?_ ?_
      · obtain ⟨Ac, cc, hvc, hsc⟩ := hmsl _ (H.get 0 rfl) (c : Int)
        refine hlook _ _ _ _ _ (H.get 0 rfl) hvc ?_
        refine len_sl Try.underlying32 ?_
        refine cond_beq (fun h9 => ?_) (fun h9 => ?_)
        · exact ⟨(), trivial, less_nil (by omega), H⟩
        obtain ⟨i0, lw, hwc, hi0⟩ := where_head (R := R) (c := (c : Int)) (by omega)
        have hany := cols_any hright hwc
        obtain ⟨y, hy⟩ : ∃ y, R[i0]? = some y := ⟨_, List.getElem?_eq_getElem hi0⟩
        rw [show R.getD i0 [] = y by rw [List.getD_eq_getElem?_getD, hy]; rfl] at hany
        have hyl := hlr y (List.mem_of_getElem? hy)
        obtain ⟨g0, o0, rfl⟩ := ha.A (by omega)
        obtain ⟨By, cy, hgety, hsy⟩ := hra i0 y hy
        obtain ⟨gc, oc, rfl⟩ := hsc.A (by omega)
        have hsl2 : ∀ u : World, (msR kaI 3 r l).ok u → ∀ (d : Int) (A : Option Addr) (c' : Nat), msV l d = .slice A (whereM R d).length c' → Sl u (.slice A (whereM R d).length c') 1 (whereM R d).length (intsI (whereM R d)) := fun u hu d A c' h => by
          have ho := own_Sl (msR_own hu d)
          rwa [h, hlen d, hw d] at ho
        refine H.draw fol (by kernel_rfl) ?_
        clear H
        intro w7 H
        refine quiet _ (fun w H => fieldAddr_by (fa91_1 _) ⟨rfl, rfl⟩) ?_
        refine quiet _ (fun w H => H.load 2 rfl agg89 rfl ⟨rfl, rfl⟩) ?_
        refine quiet _ (fun w H => hlook _ _ _ _ _ (H.get 0 rfl) hvc ⟨rfl, rfl⟩) ?_
        refine quiet _ (fun w H => idxAddr_sl Try.underlying32 (s := 1) size3 0 rfl (by omega) (o' := oc) (by omega) ⟨rfl, rfl⟩) ?_
        refine quiet (.int .i64 (i0 : Int)) (fun w H => load_cell agg3 (((hsl2 _ (H.get 0 rfl) _ _ _ hvc).cell 0 (by omega)).trans (by rw [hwc]; rfl)) ⟨rfl, rfl⟩) ?_
        refine quiet _ (fun w H => idxAddr_sl Try.underlying89 (s := 1) size32 i0 rfl (by omega) (o' := o0 + i0) (by omega) ⟨rfl, rfl⟩) ?_
        refine quiet _ (fun w H => H.loadSl (i := i0) ha aggrow _ rfl hgety ⟨rfl, rfl⟩) ?_
        refine quiet _ (fun w H => len_sl Try.underlying32 ⟨rfl, rfl⟩) ?_
        refine loop_rule (γ := Nat) _ rfl (fun j => [(67, .int .i64 (j : Int))]) (fun j w' => (j ≤ y.length ∧ ∀ d ∈ y.take j, progC R (c : Int) d = false) ∧ Hp w (fun _ => False) w' [msR kaI 3 r l, blk g2 91 (mv 0 (.slice none 0 0)).cells, blk g1 91 (mc n (.slice (some ⟨g0, o0, none⟩) R.length ca))] [MatR S (.slice (some ⟨g0, o0, none⟩) R.length ca) R]) (fun j => y.length - j) 0 ⟨rfl, trivial⟩ ⟨⟨Nat.zero_le _, by simp⟩, H⟩ ?_
        clear H hsc
        rintro j u w8 ⟨⟨hj, hnj⟩, H⟩
        replace H : Hp _ _ _ _ _ := H
        refine cond_dec (fun h10 => ?_) (fun h10 => ?_)
        · obtain ⟨d, hd⟩ : ∃ d, y[j]? = some d := ⟨_, List.getElem?_eq_getElem (by omega)⟩
          obtain ⟨gy, oy, rfl⟩ := hsy.A (by omega)
          have hgd : (intsI y)[j]? = some (.int .i64 d) := by rw [intsI, List.getElem?_map, hd]; rfl
          refine cut_rule (γ := Unit) _ rfl (fun _ => []) (fun _ w' => progC R (c : Int) d = false ∧ Hp w (fun _ => False) w' [msR kaI 3 r l, blk g2 91 (mv 0 (.slice none 0 0)).cells, blk g1 91 (mc n (.slice (some ⟨g0, o0, none⟩) R.length ca))] [MatR S (.slice (some ⟨g0, o0, none⟩) R.length ca) R]) ?_ ?_
          · refine cut_rule (γ := Unit) _ rfl (fun _ => [(11, .int .i64 d)]) (fun _ w' => Hp.cl H w') ?_ ?_
            · refine idxAddr_sl Try.underlying32 (s := 1) size3 j rfl (by omega) (o' := oy + j) (by omega) ?_
              refine H.loadSl (i := j) hsy agg3 _ rfl hgd ?_
              exact ⟨(), ⟨rfl, trivial⟩, H⟩
            rintro ⟨⟩ u w9 H1
            replace H : Hp _ _ _ _ _ := H1
            clear H1
            obtain ⟨Ad, cd, hvd, hsd⟩ := hmsl _ (H.get 0 rfl) d
            have htest := prog_test R (c : Int) d
            have hc1 := hwl (c : Int)
            have hd1 := hwl d
            refine cut_rule (γ := Unit) _ rfl (fun _ => []) (fun _ w' => progC R (c : Int) d = true ∧ Hp w (fun _ => False) w' [msR kaI 3 r l, blk g2 91 (mv 0 (.slice none 0 0)).cells, blk g1 91 (mc n (.slice (some ⟨g0, o0, none⟩) R.length ca))] [MatR S (.slice (some ⟨g0, o0, none⟩) R.length ca) R]) ?_ ?_
            · refine cut_rule (γ := Unit) _ rfl (fun _ => [(99, .bool (!progC R (c : Int) d))]) (fun _ w' => Hp w (fun _ => False) w' [msR kaI 3 r l, blk g2 91 (mv 0 (.slice none 0 0)).cells, blk g1 91 (mc n (.slice (some ⟨g0, o0, none⟩) R.length ca))] [MatR S (.slice (some ⟨g0, o0, none⟩) R.length ca) R]) ?_ ?_
              · refine cond_beq (fun h11 => ?_) (fun h11 => ?_)
                · refine cond_yes (beq_iff_eq.2 (by assumption)) ?_
                  iterate 7 refine cond_yes (beq_iff_eq.2 (by assumption)) ?_
                  iterate 12 refine cond_yes rfl ?_
                  exact ⟨(), ⟨by rw [← htest, beq_iff_eq.2 h11]; rfl, trivial⟩, H⟩
                · refine cond_no (beq_eq_false_iff_ne.2 (by assumption)) ?_
                  refine cond_no (beq_eq_false_iff_ne.2 (by assumption)) ?_
                  refine hlook _ (c : Int) _ _ _ (H.get 0 rfl) hvc ?_
                  iterate 3 refine cond_no (beq_eq_false_iff_ne.2 (by assumption)) ?_
                  refine hlook _ d _ _ _ (H.get 0 rfl) hvd ?_
                  refine cond_no (beq_eq_false_iff_ne.2 (by assumption)) ?_
                  refine call_fn (c175 _ _ _ _ _ _ _ (Nat.le_trans hc1 hl) (Nat.le_trans hd1 hl) (hsl2 _ (H.get 0 rfl) _ _ _ hvc) (hsl2 _ (H.get 0 rfl) _ _ _ hvd)) ?_ 
                  rintro _ w42 ⟨rfl, hk42⟩ 
                  replace H := H.same hk42 
                  clear hk42
                  iterate 2 refine cond_no (beq_eq_false_iff_ne.2 (by assumption)) ?_
                  refine cond_split (fun h45 => ?_) (fun h45 => ?_)
                  · refine cond_yes (by assumption) ?_
                    iterate 10 refine cond_yes (by assumption) ?_
                    exact ⟨(), ⟨by rw [← htest, h45]; cases (d == (c : Int)) <;> rfl, trivial⟩, H⟩
                  · refine cond_no (by assumption) ?_
                    refine cond_no (by assumption) ?_
                    refine hlook _ d _ _ _ (H.get 0 rfl) hvd ?_
                    refine cond_no (by assumption) ?_
                    refine len_sl Try.underlying32 ?_
                    iterate 3 refine cond_no (by assumption) ?_
                    refine hlook _ (c : Int) _ _ _ (H.get 0 rfl) hvc ?_
                    refine cond_no (by assumption) ?_
                    refine len_sl Try.underlying32 ?_
                    iterate 2 refine cond_no (by assumption) ?_
                    refine cond_beq (fun h72 => ?_) (fun h72 => ?_)
                    · refine cond_yes (beq_iff_eq.2 (by assumption)) ?_
                      refine cond_yes (beq_iff_eq.2 (by assumption)) ?_
                      refine cond_no (by assumption) ?_
                      refine cond_yes (beq_iff_eq.2 (by assumption)) ?_
                      refine cond_no (by assumption) ?_
                      exact ⟨(), ⟨by rw [← htest, beq_eq_false_iff_ne.2 h11, h45, decide_eq_true (show (whereM R d).length = (whereM R (c : Int)).length by omega)]; rfl, trivial⟩, H⟩
                    · refine cond_no (beq_eq_false_iff_ne.2 (by assumption)) ?_
                      refine cond_no (beq_eq_false_iff_ne.2 (by assumption)) ?_
                      refine cond_no (by assumption) ?_
                      refine cond_no (beq_eq_false_iff_ne.2 (by assumption)) ?_
                      refine cond_no (by assumption) ?_
                      exact ⟨(), ⟨by rw [← htest, beq_eq_false_iff_ne.2 h11, h45, decide_eq_false (show ¬ (whereM R d).length = (whereM R (c : Int)).length by omega)]; rfl, trivial⟩, H⟩
              · clear H
                rintro ⟨⟩ u w10 H
                replace H : Hp _ _ _ _ _ := H
                refine cond_split (fun hp => ?_) (fun hp => ?_)
                · exact ⟨(), trivial, by simpa using hp, H⟩
                · exact ⟨(), trivial, by simpa using hp, H⟩
            · clear H
              rintro ⟨⟩ u w10 ⟨hp', H⟩
              replace H : Hp _ _ _ _ _ := H
              have hless : lessB n R (c : Int) = true := by
                unfold lessB
                rw [← hany, List.any_eq_true.2 ⟨d, List.mem_of_getElem? hd, hp'⟩, hwc]; rfl
              rw [cols_found hno (by omega) hless]
              refine fieldAddr_by (fa91_0 _) ?_
              refine H.load 2 rfl agg3 rfl ?_
              refine build91a ?_
              refine H.alloc 91 zero91 rfl ?_
              clear H
              intro g12 w11 H
              refine H.storeAll 0 rfl size91 rfl (fun v hv => mc_one v hv) ?_
              clear H
              intro w12 H
              replace H : Hp w (fun _ => False) w12 [blk g12 91 (mc n (.slice none 0 0)), msR kaI 3 r l, blk g2 91 (mv 0 (.slice none 0 0)).cells, blk g1 91 (mc n (.slice (some ⟨g0, o0, none⟩) R.length ca))] [MatR S (.slice (some ⟨g0, o0, none⟩) R.length ca) R] := H
              have H2 := ((H.ownNil 32 1).front 1 rfl).noRows
              clear H
              refine cut_rule (γ := Option Addr × Nat × List Value × (Nat → Prop)) _ rfl (fun _ => [])
                (fun (B, d, hs, S') w' => (∀ g, S' g → w.heap.size ≤ g) ∧ Hp w (fun _ => False) w' [blk g12 91 (mc n (.slice B hs.length d)), own 32 1 (.slice B hs.length d) hs.length hs, msR kaI 3 r l, blk g2 91 (mv 0 (.slice none 0 0)).cells, blk g1 91 (mc n (.slice (some ⟨g0, o0, none⟩) R.length ca))] [rowsR S' hs (dropC R (c : Int)), MatR S (.slice (some ⟨g0, o0, none⟩) R.length ca) R]) ?_ ?_
              · refine fieldAddr_by (fa91_1 _) ?_
                refine H2.load 4 rfl agg89 rfl ?_
                refine len_sl Try.underlying89 ?_
                refine loop_rule (γ := Nat × Option Addr × Nat × List Value × (Nat → Prop)) _ rfl (fun (i, _) => [(106, .int .i64 (i : Int))])
                  (fun (i, B, d, hs, S') w' => (i ≤ R.length ∧ hs.length = i ∧ ∀ g, S' g → w.heap.size ≤ g) ∧ Hp w (fun _ => False) w' [blk g12 91 (mc n (.slice B hs.length d)), own 32 1 (.slice B hs.length d) hs.length hs, msR kaI 3 r l, blk g2 91 (mv 0 (.slice none 0 0)).cells, blk g1 91 (mc n (.slice (some ⟨g0, o0, none⟩) R.length ca))] [rowsR S' hs (dropC (R.take i) (c : Int)), MatR S (.slice (some ⟨g0, o0, none⟩) R.length ca) R])
                  (fun (i, _) => R.length - i) (0, none, 0, [], fun _ => False) ⟨rfl, trivial⟩ ⟨⟨Nat.zero_le _, rfl, fun g h => h.elim⟩, H2⟩ ?_
                clear H2
                rintro ⟨i, B, db, hs, S'⟩ u w13 ⟨⟨hi, hhl, hS'⟩, H⟩
                replace H : Hp _ _ _ _ _ := H
                refine cond_dec (fun h20 => ?_) (fun h20 => ?_)
                · obtain ⟨x, hx⟩ : ∃ x, R[i]? = some x := ⟨_, List.getElem?_eq_getElem (by omega)⟩
                  obtain ⟨Bx, cx, hget, hsx⟩ := hra i x hx
                  have hxl := hlr x (List.mem_of_getElem? hx)
                  refine cut_rule (γ := Option Addr × Nat × List Value × (Nat → Prop)) _ rfl (fun _ => [])
                    (fun (B, d, hs, S') w' => (hs.length = i + 1 ∧ ∀ g, S' g → w.heap.size ≤ g) ∧ Hp w (fun _ => False) w' [blk g12 91 (mc n (.slice B hs.length d)), own 32 1 (.slice B hs.length d) hs.length hs, msR kaI 3 r l, blk g2 91 (mv 0 (.slice none 0 0)).cells, blk g1 91 (mc n (.slice (some ⟨g0, o0, none⟩) R.length ca))] [rowsR S' hs (dropC (R.take (i + 1)) (c : Int)), MatR S (.slice (some ⟨g0, o0, none⟩) R.length ca) R]) ?_ ?_
                  · refine cut_rule (γ := Unit) _ rfl (fun _ => [(14, .slice Bx x.length cx)]) (fun _ w' => Hp.cl H w') ?_ ?_
                    · refine idxAddr_sl Try.underlying89 (s := 1) size32 i rfl (by omega) (o' := o0 + i) (by omega) ?_
                      refine H.loadSl (i := i) ha aggrow _ rfl hget ?_
                      exact ⟨(), ⟨rfl, trivial⟩, H⟩
                    rintro ⟨⟩ u w14 H1
                    replace H : Hp _ _ _ _ _ := H1
                    clear H1
                    refine cut_rule (γ := Unit) _ rfl (fun _ => [(15, .slice none 0 0)]) (fun _ w' => Hp.cl H w') ⟨(), ⟨rfl, trivial⟩, H⟩ ?_
                    rintro ⟨⟩ u w14 H1
                    replace H : Hp _ _ _ _ _ := H1
                    clear H1
                    have H2 := H.ownNil 3 1
                    clear H
                    refine cut_rule (γ := Option Addr × Nat) _ rfl (fun (B2, d2) => [(15, .slice B2 (x.filter fun k => k != (c : Int)).length d2)])
                      (fun (B2, d2) w' => Hp w (fun _ => False) w' [own 3 1 (.slice B2 (x.filter fun k => k != (c : Int)).length d2) (x.filter fun k => k != (c : Int)).length (intsI (x.filter fun k => k != (c : Int))), blk g12 91 (mc n (.slice B hs.length db)), own 32 1 (.slice B hs.length db) hs.length hs, msR kaI 3 r l, blk g2 91 (mv 0 (.slice none 0 0)).cells, blk g1 91 (mc n (.slice (some ⟨g0, o0, none⟩) R.length ca))] [rowsR S' hs (dropC (R.take i) (c : Int)), MatR S (.slice (some ⟨g0, o0, none⟩) R.length ca) R]) ?_ ?_
                    · refine len_sl Try.underlying32 ?_
                      refine loop_rule (γ := Nat × Option Addr × Nat) _ rfl (fun (j, B2, d2) => [(112, .int .i64 (j : Int)), (15, .slice B2 ((x.take j).filter fun k => k != (c : Int)).length d2)])
                        (fun (j, B2, d2) w' => j ≤ x.length ∧ Hp w (fun _ => False) w' [own 3 1 (.slice B2 ((x.take j).filter fun k => k != (c : Int)).length d2) ((x.take j).filter fun k => k != (c : Int)).length (intsI ((x.take j).filter fun k => k != (c : Int))), blk g12 91 (mc n (.slice B hs.length db)), own 32 1 (.slice B hs.length db) hs.length hs, msR kaI 3 r l, blk g2 91 (mv 0 (.slice none 0 0)).cells, blk g1 91 (mc n (.slice (some ⟨g0, o0, none⟩) R.length ca))] [rowsR S' hs (dropC (R.take i) (c : Int)), MatR S (.slice (some ⟨g0, o0, none⟩) R.length ca) R])
                        (fun (j, _) => x.length - j) (0, none, 0) ⟨rfl, rfl, trivial⟩ ⟨Nat.zero_le _, H2⟩ ?_
                      clear H2
                      rintro ⟨j, B2, d2⟩ u w15 ⟨hj, H⟩
                      replace H : Hp _ _ _ _ _ := H
                      refine cond_dec (fun h21 => ?_) (fun h21 => ?_)
                      · obtain ⟨k, hk⟩ : ∃ k, x[j]? = some k := ⟨_, List.getElem?_eq_getElem (by omega)⟩
                        obtain ⟨g3, o3, rfl⟩ := hsx.A (by omega)
                        have hgk : (intsI x)[j]? = some (.int .i64 k) := by rw [intsI, List.getElem?_map, hk]; rfl
                        have hsn := filt_snoc (fun k => k != (c : Int)) hk
                        have hfl := List.length_filter_le (fun k => k != (c : Int)) (x.take j)
                        rw [List.length_take] at hfl
                        refine idxAddr_sl Try.underlying32 (s := 1) size3 j rfl (by omega) (o' := o3 + j) (by omega) ?_
                        refine H.loadSl (i := j) hsx agg3 _ rfl hgk ?_
                        refine cond_split (fun hb => ?_) (fun hb => ?_)
                        · rw [if_pos hb] at hsn
                          refine H.buildOne T32 rfl ?_
                          clear H
                          intro g7 w16 H
                          refine H.appendOne 0 T32 rfl rfl (by omega) (by omega) ?_
                          clear H
                          intro B3 d3 w17 H
                          have e1 : ((x.take (j + 1)).filter fun k => k != (c : Int)).length = ((x.take j).filter fun k => k != (c : Int)).length + 1 := by rw [hsn]; simp
                          have e2 : intsI ((x.take (j + 1)).filter fun k => k != (c : Int)) = intsI ((x.take j).filter fun k => k != (c : Int)) ++ [.int .i64 k] := by rw [hsn, intsI_snoc]
                          exact ⟨(j + 1, B3, d3), by show x.length - (j + 1) < x.length - j; omega, ⟨up (by omega), by rw [e1]; rfl, trivial⟩, by show j + 1 ≤ x.length; omega, by rw [e1, e2]; exact H⟩
                        · rw [if_neg (by rw [hb]; decide), List.append_nil] at hsn
                          exact ⟨(j + 1, B2, d2), by show x.length - (j + 1) < x.length - j; omega, ⟨up (by omega), by rw [hsn]; rfl, trivial⟩, by show j + 1 ≤ x.length; omega, by rw [hsn]; exact H⟩
                      · have e : x.take j = x := List.take_of_length_le (by omega)
                        rw [e] at H
                        exact ⟨(B2, d2), ⟨congrArg (fun l : List Int => Value.slice B2 (l.filter fun k => k != (c : Int)).length d2) e, trivial⟩, H⟩
                    · clear H2
                      rintro ⟨B2, d2⟩ u w15 H
                      replace H : Hp _ _ _ _ _ := H
                      refine fieldAddr_by (fa91_1 _) ?_
                      refine H.load 1 rfl agg89 rfl ?_
                      refine H.buildOne T89 rfl ?_
                      clear H
                      intro g7 w16 H
                      refine H.appendOne 2 T89 rfl rfl (by omega) (by omega) ?_
                      clear H
                      intro B3 d3 w17 H
                      refine fieldAddr_by (fa91_1 _) ?_
                      refine H.store 1 rfl size89 (by show 1 < 2; decide) rfl ?_
                      clear H
                      intro w18 H
                      have e0 : hs.length + 1 = (hs ++ [Value.slice B2 (x.filter fun k => k != (c : Int)).length d2]).length := by simp
                      obtain ⟨S2, H3, hS2⟩ := H.addRow hS'
                      rw [← drop_snoc hx] at H3
                      rw [e0] at H3
                      exact ⟨(B3, d3, _, S2), trivial, ⟨by rw [← e0]; omega, hS2⟩, H3⟩
                  · clear H
                    rintro ⟨B3, d3, hs3, S2⟩ u w14 ⟨⟨hn1, hS2⟩, H⟩
                    exact ⟨(i + 1, B3, d3, hs3, S2), by show R.length - (i + 1) < R.length - i; omega, ⟨up (by omega), trivial⟩, ⟨by show i + 1 ≤ R.length; omega, hn1, hS2⟩, H⟩
                · have e : R.take i = R := List.take_of_length_le (by omega)
                  rw [e] at H
                  exact ⟨(B, db, hs, S'), trivial, hS', H⟩
              · clear H2
                rintro ⟨B, db, hs, S'⟩ u w13 ⟨hS', H⟩
                replace H : Hp _ _ _ _ _ := H
                refine H.loadAll 0 rfl agg91 size91 ?_
                refine H.storeAll 3 rfl size91 rfl (fun v hv => mc_one v hv) ?_
                clear H
                intro w14 H
                refine H.loadAll 3 rfl agg91 size91 ?_
                refine ⟨rfl, ?_⟩
                exact ⟨_, rfl, newM_of H 1 rfl (H.ro 0 rfl) fun g hg => ⟨H.rlt _ (.head _) g hg, .inl (hS' g hg)⟩⟩
          · clear H
            rintro ⟨⟩ u w9 ⟨hp, H⟩
            replace H : Hp _ _ _ _ _ := H
            refine ⟨j + 1, by show y.length - (j + 1) < y.length - j; omega, ⟨up (by omega), trivial⟩, ⟨by show j + 1 ≤ y.length; omega, fun x hx => ?_⟩, H⟩
            rw [List.take_add_one, hd] at hx
            rcases List.mem_append.1 hx with hx | hx
            · exact hnj x hx
            · obtain rfl : x = d := by simpa using hx
              exact hp
        · have : j = y.length := by omega
          subst this
          rw [List.take_length] at hnj
          refine ⟨(), trivial, ?_, H⟩
          unfold lessB
          rw [← hany]
          have : y.any (fun d => progC R (c : Int) d) = false := by
            rw [Bool.eq_false_iff]
            intro hh
            obtain ⟨x, hx, hp⟩ := List.any_eq_true.1 hh
            rw [hnj x hx] at hp; cases hp
          rw [this, Bool.and_false]
      · clear H
        rintro ⟨⟩ u w7 ⟨hlc, H⟩
        replace H : Hp _ _ _ _ _ := H
        exact ⟨c + 1, by show n - (c + 1) < n - c; omega, ⟨up (by omega), trivial⟩, ⟨by show c + 1 ≤ n; omega, lt_snoc hno hlc⟩, H⟩
    · have : c = n := by omega
      subst this
      exact ⟨(), trivial, hno, H⟩
  · clear H
    rintro ⟨⟩ u w6 ⟨hno, H⟩
    replace H : Hp _ _ _ _ _ := H
    rw [cols_none hno]
    refine H.loadAll 2 rfl agg91 size91 ?_
    refine H.storeAll 1 rfl size91 rfl (fun v hv => mc_one v hv) ?_
    clear H
    intro w7 H
    refine H.loadAll 1 rfl agg91 size91 ?_
    refine ⟨rfl, ?_⟩
    exact ⟨_, rfl, H.outM fun g hg => .inr hg⟩
end Go.Proofs.Ytjebpngdinbckaa
end

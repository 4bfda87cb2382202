import Derived.Test.YtjebpngdinbckaaPart6
/- Lemmas, part 7: what the proof of the row uses. -/
section
/- A drawn region's mixed walk, with operations that are told to be loud. -/
namespace Go.Dk

/-- Is an operation loud, or told to be so? -/
def loudS (S : Nat → Bool) (i : Nat) (op : Op) : Bool := S i || loud op
theorem loudS_no {S : Nat → Bool} {i : Nat} {op : Op} (h : loudS S i op = false) : loud op = false := by
  unfold loudS at h; cases hS : S i <;> rw [hS] at h <;> first | exact h | cases h

def pairCS (S : Nat → Bool) (ops : Array Oper) (c : Array Nat) (i j : Nat) : Bool :=
  match ops[i]?, ops[j]? with
  | some x, some y => (x.apart ops y && !(loudS S i x.op && loudS S j y.op)) || waitsC c j i
  | _, _ => true
def mixBS (S : Nat → Bool) (ops : Array Oper) : Bool :=
  directB ops && (List.range ops.size).all fun j => (List.range j).all fun i => pairCS S ops (closL ops.toList #[]) i j
def tailBS (S : Nat → Bool) (ops : Array Oper) (i : Nat) : Bool :=
  (List.range ops.size).all fun j => j == i || (match ops[j]? with | some o => loudS S j o.op | none => true) || waitsC (closL ops.toList #[]) i j

/-- The mixed walk, over operations that are still to come, in the text's order. -/
def wpMixS (S : Nat → Bool) (P : Program) (ops : Array Oper) (C : World → Prop) (Q : Act → World → Prop) : List Nat → Act → World → Prop
  | [], a, w => Q a w
  | i :: rest, a, w =>
    match ops[i]? with
    | none => wpMixS S P ops C Q rest a w
    | some o =>
      if Region.wanted o (yielded ops a.tmps) then
        (if loudS S i o.op then runsTo P o a.eval w fun v w' => (C w' ∨ tailBS S ops i = true) ∧ wpMixS S P ops C Q rest (a.put o.dst v) w'
         else ∃ v, quietE P C o a v ∧ wpMixS S P ops C Q rest (a.put o.dst v) w)
      else wpMixS S P ops C Q rest (a.put o.dst undef) w

/-- One operation taken. -/
def stepMixS (S : Nat → Bool) (P : Program) (ops : Array Oper) (C : World → Prop) (i : Nat) (K : Act → World → Prop) (a : Act) (w : World) : Prop :=
  match ops[i]? with
  | none => K a w
  | some o =>
    if Region.wanted o (yielded ops a.tmps) then
      (if loudS S i o.op then runsTo P o a.eval w fun v w' => (C w' ∨ tailBS S ops i = true) ∧ K (a.put o.dst v) w'
       else ∃ v, quietE P C o a v ∧ K (a.put o.dst v) w)
    else K (a.put o.dst undef) w

section mix
variable {S : Nat → Bool} {P : Program} {ops : Array Oper} {C : World → Prop}

theorem pullS {Q : Act → World → Prop} {i : Nat} {oi : Oper} (hi : ops[i]? = some oi) (hns : Region.noSelect ops = true) (post : List Nat) : ∀ (pre : List Nat) (a : Act) (w : World), (C w ∨ ∀ k ∈ pre ++ i :: post, ∀ o, ops[k]? = some o → loudS S k o.op = true) →
    (∀ k ∈ pre, ∀ ok, ops[k]? = some ok → ok.apart ops oi = true ∧ (loudS S k ok.op && loudS S i oi.op) = false ∧ (loudS S i oi.op = false → tailBS S ops k = false)) →
    wpMixS S P ops C Q (pre ++ i :: post) a w → stepMixS S P ops C i (wpMixS S P ops C Q (pre ++ post)) a w := by
  have hsel := Region.noSelect_spec hns
  intro pre
  induction pre with
  | nil => intro a w _ _ h; exact h
  | cons k pre ih =>
    intro a w hC hp h
    have ih' := fun a w hC h => ih a w hC (fun k hk => hp k (.tail _ hk)) h
    have hC' : C w ∨ ∀ k ∈ pre ++ i :: post, ∀ o, ops[k]? = some o → loudS S k o.op = true := hC.imp id fun hh k hk => hh k (.tail _ hk)
    simp only [List.cons_append, wpMixS] at h
    cases hk : ops[k]? with
    | none =>
      simp only [hk] at h
      have := ih' a w hC' h
      unfold stepMixS at this ⊢
      simp only [hi] at this ⊢
      simpa only [List.cons_append, wpMixS, hk] using this
    | some ok =>
      simp only [hk] at h
      obtain ⟨hap, hll, htl⟩ := hp k (.head _) ok hk
      obtain ⟨h1, h2, h3⟩ := Oper.apart_spec hap
      have selk := fun cs b => hsel k ok cs b hk
      have seli := fun cs b => hsel i oi cs b hi
      have exi : ∀ (a : Act) (u : Value), execOp (a.put ok.dst u).eval oi = execOp a.eval oi := fun a u => execOp_put oi seli a ok.dst u h1
      have exk : ∀ (a : Act) (u : Value), execOp (a.put oi.dst u).eval ok = execOp a.eval ok := fun a u => execOp_put ok selk a oi.dst u h3
      have wai : ∀ (a : Act) (u : Value), Region.wanted oi (yielded ops (a.put ok.dst u).tmps) = Region.wanted oi (yielded ops a.tmps) := fun a u => wanted_put oi a ok.dst u h1
      have wak : ∀ (a : Act) (u : Value), Region.wanted ok (yielded ops (a.put oi.dst u).tmps) = Region.wanted ok (yielded ops a.tmps) := fun a u => wanted_put ok a oi.dst u h3
      have comm : ∀ (a : Act) (u v : Value), (a.put ok.dst u).put oi.dst v = (a.put oi.dst v).put ok.dst u := fun a u v => (Act.put_comm a u v h2)
      have qi : ∀ (a : Act) (u v : Value), quietE P C oi (a.put ok.dst u) v ↔ quietE P C oi a v := fun a u v => by unfold quietE; rw [exi]
      have qk : ∀ (a : Act) (u v : Value), quietE P C ok (a.put oi.dst u) v ↔ quietE P C ok a v := fun a u v => by unfold quietE; rw [exk]
      by_cases hwk : Region.wanted ok (yielded ops a.tmps) = true
      · rw [if_pos hwk] at h
        by_cases hlk : loudS S k ok.op = true
        · rw [if_pos hlk] at h
          have hli : loudS S i oi.op = false := by simpa [hlk] using hll
          have hCw : C w := hC.resolve_right fun hh => by
            have := hh i (by simp) oi hi
            rw [hli] at this; cases this
          have h' := h.mono (k' := fun v w' => C w' ∧ stepMixS S P ops C i (wpMixS S P ops C Q (pre ++ post)) (a.put ok.dst v) w') fun v w' hh =>
            have hc := hh.1.resolve_right (by rw [htl hli]; simp)
            ⟨hc, ih' _ _ (.inl hc) hh.2⟩
          unfold stepMixS at h' ⊢
          simp only [hi, hli, wai] at h' ⊢
          by_cases hwi : Region.wanted oi (yielded ops a.tmps) = true
          · simp only [hwi, if_true, Bool.false_eq_true, if_false] at h' ⊢
            obtain ⟨v0, w0, _, u0, hu0, _⟩ := h'.some
            rw [qi] at hu0
            refine ⟨u0, hu0, ?_⟩
            simp only [List.cons_append, wpMixS, hk, wak, hwk, if_true, hlk]
            rw [runsTo_same (exk a u0)]
            refine h'.mono fun v w' ⟨hC', u, hu, hh⟩ => ⟨.inl hC', ?_⟩
            rw [qi] at hu
            have e := (hu w hCw).symm.trans (hu0 w hCw)
            injection e with e _
            injection e with e
            subst e
            rw [← comm]; exact hh
          · simp only [hwi, if_false, Bool.false_eq_true] at h' ⊢
            simp only [List.cons_append, wpMixS, hk, wak, hwk, if_true, hlk]
            rw [runsTo_same (exk a undef)]
            refine h'.mono fun v w' ⟨hC', hh⟩ => ⟨.inl hC', ?_⟩
            rw [← comm]; exact hh
        · rw [if_neg hlk] at h
          obtain ⟨v, hv, h⟩ := h
          have h' := ih' _ _ hC' h
          unfold stepMixS at h' ⊢
          simp only [hi, wai, runsTo_same (exi a v)] at h' ⊢
          have fin : ∀ u w', wpMixS S P ops C Q (pre ++ post) ((a.put ok.dst v).put oi.dst u) w' → wpMixS S P ops C Q (k :: pre ++ post) (a.put oi.dst u) w' := by
            intro u w' hh
            simp only [List.cons_append, wpMixS, hk, wak, hwk, if_true, hlk, if_false, Bool.false_eq_true]
            exact ⟨v, (qk a u v).2 hv, by rw [← comm]; exact hh⟩
          split
          · rename_i hwi
            rw [if_pos hwi] at h'
            split
            · rename_i hli
              rw [if_pos hli] at h'
              exact h'.mono fun u w' hh => ⟨hh.1, fin _ _ hh.2⟩
            · rename_i hli
              rw [if_neg hli] at h'
              obtain ⟨u, hu, hh⟩ := h'
              exact ⟨u, (qi a v u).1 hu, fin _ _ hh⟩
          · rename_i hwi
            rw [if_neg hwi] at h'
            exact fin _ _ h'
      · rw [if_neg hwk] at h
        have h' := ih' _ _ hC' h
        unfold stepMixS at h' ⊢
        simp only [hi, wai, runsTo_same (exi a undef)] at h' ⊢
        have fin : ∀ u w', wpMixS S P ops C Q (pre ++ post) ((a.put ok.dst undef).put oi.dst u) w' → wpMixS S P ops C Q (k :: pre ++ post) (a.put oi.dst u) w' := by
          intro u w' hh
          simp only [List.cons_append, wpMixS, hk, wak, hwk, if_false, Bool.false_eq_true]
          rw [← comm]; exact hh
        split
        · rename_i hwi
          rw [if_pos hwi] at h'
          split
          · rename_i hli
            rw [if_pos hli] at h'
            exact h'.mono fun u w' hh => ⟨hh.1, fin _ _ hh.2⟩
          · rename_i hli
            rw [if_neg hli] at h'
            obtain ⟨u, hu, hh⟩ := h'
            exact ⟨u, (qi a undef u).1 hu, fin _ _ hh⟩
        · rename_i hwi
          rw [if_neg hwi] at h'
          exact fin _ _ h'
theorem any_of_mixS {Q : Act → World → Prop} {Q' : Exit → Act → World → Prop} (hQ : ∀ a w, Q a w → Q' .normal a w) (hns : Region.noSelect ops = true) (hm : mixBS S ops = true) :
    ∀ (l : List Nat) (listed : Array Bool) (a : Act) (w : World), l.Pairwise (· < ·) → (∀ j, j ∈ l ↔ j < ops.size ∧ listed.getD j true = false) → listed.size = ops.size →
    (∀ j o, ops[j]? = some o → listed.getD j false = true → ∀ e ∈ o.after, Region.binds .any e = true → listed.getD e.on false = true) →
    (C w ∨ ∀ k ∈ l, ∀ o, ops[k]? = some o → loudS S k o.op = true) → wpMixS S P ops C Q l a w → wpAny P .any ops Q' l.length listed a w := by
  simp only [mixBS, Bool.and_eq_true] at hm
  obtain ⟨hdir, hpair⟩ := hm
  have key : ∀ (n : Nat) (l : List Nat) (listed : Array Bool) (a : Act) (w : World), l.length = n → l.Pairwise (· < ·) → (∀ j, j ∈ l ↔ j < ops.size ∧ listed.getD j true = false) → listed.size = ops.size →
    (∀ j o, ops[j]? = some o → listed.getD j false = true → ∀ e ∈ o.after, Region.binds .any e = true → listed.getD e.on false = true) →
    (C w ∨ ∀ k ∈ l, ∀ o, ops[k]? = some o → loudS S k o.op = true) → wpMixS S P ops C Q l a w → wpAny P .any ops Q' n listed a w := by
    intro n
    induction n with
    | zero =>
      intro l listed a w hn hpw hmem hsz hcl hC h
      have hl : l = [] := List.eq_nil_of_length_eq_zero hn
      subst hl
      refine ⟨?_, hQ _ _ h⟩
      rw [List.eq_nil_iff_forall_not_mem]
      intro i hi
      obtain ⟨h1, oi, h2, _⟩ := mem_ready.1 hi
      have := (hmem i).2 ⟨(Array.getElem?_eq_some_iff.1 h2).1, h1⟩
      cases this
    | succ n ih =>
      intro l listed a w hn hpw hmem hsz hcl hC h
      have gfalse : ∀ j, j < ops.size → j ∉ l → listed.getD j false = true := by
        intro j hj hjl
        have : ¬ listed.getD j true = false := fun hh => hjl ((hmem j).2 ⟨hj, hh⟩)
        have hjs : j < listed.size := by omega
        simp only [Array.getD, hjs, dif_pos] at this ⊢
        simpa using this
      constructor
      · intro hr
        exfalso
        cases l with
        | nil => simp at hn
        | cons i l =>
          have hi := (hmem i).1 (.head _)
          have hin : i ∈ Region.ready .any ops listed := by
            refine mem_ready.2 ⟨hi.2, ops[i], Array.getElem?_eq_getElem hi.1, ?_⟩
            intro e he hb
            have hlt := directB_spec hdir (Array.getElem?_eq_getElem hi.1) he hb
            refine gfalse _ (by omega) fun hmem' => ?_
            rcases List.mem_cons.1 hmem' with h | h
            · omega
            · have := (List.pairwise_cons.1 hpw).1 _ h; omega
          rw [hr] at hin
          cases hin
      · intro i hi
        obtain ⟨hun, oi, hoi, hpre⟩ := mem_ready.1 hi
        have hilt : i < ops.size := (Array.getElem?_eq_some_iff.1 hoi).1
        have hil : i ∈ l := (hmem i).2 ⟨hilt, hun⟩
        obtain ⟨pre, post, rfl⟩ := List.append_of_mem hil
        have hpw' := List.pairwise_append.1 hpw
        have hlt : ∀ k ∈ pre, k < i := fun k hk => hpw'.2.2 k hk i (.head _)
        have hgt : ∀ k ∈ post, i < k := fun k hk => (List.pairwise_cons.1 hpw'.2.1).1 k hk
        -- nothing that is still to come is waited for
        have hclD : Closed ops fun j => j = i ∨ listed.getD j false = true := fun j hj o ho e he hb => by
          rcases hj with rfl | hj
          · rw [hoi] at ho; injection ho with ho; subst ho
            exact .inr (hpre e he hb)
          · exact .inr (hcl j o ho hj e he hb)
        have hnw : ∀ k, k ≠ i → k ∈ pre ++ i :: post → waitsC (closL ops.toList #[]) i k = false := by
          intro k hki hk
          rw [Bool.eq_false_iff]
          intro hw
          rcases waitsC_step hclD i k (.inl rfl) hw with h | h
          · exact hki h
          · have := ((hmem k).1 hk)
            have hks : k < listed.size := by omega
            have h2 := this.2
            simp only [Array.getD, hks, dif_pos] at h h2
            rw [h] at h2; cases h2
        have hp : ∀ k ∈ pre, ∀ ok, ops[k]? = some ok → ok.apart ops oi = true ∧ (loudS S k ok.op && loudS S i oi.op) = false ∧ (loudS S i oi.op = false → tailBS S ops k = false) := by
          intro k hk ok hok
          rw [List.all_eq_true] at hpair
          have h1 := hpair i (List.mem_range.2 hilt)
          rw [List.all_eq_true] at h1
          have h2 := h1 k (List.mem_range.2 (hlt k hk))
          unfold pairCS at h2
          have hki : k ≠ i := by have := hlt k hk; omega
          simp only [hok, hoi, hnw k hki (by simp [hk]), Bool.or_false, Bool.and_eq_true] at h2
          refine ⟨h2.1, ?_, ?_⟩
          · have := h2.2
            cases hx : (loudS S k ok.op && loudS S i oi.op)
            · rfl
            · rw [hx] at this; cases this
          · intro hq
            rw [Bool.eq_false_iff]
            intro ht
            unfold tailBS at ht
            rw [List.all_eq_true] at ht
            have h3 := ht i (List.mem_range.2 hilt)
            simp only [hoi, hq, Bool.or_false, Bool.or_eq_true, beq_iff_eq] at h3
            rcases h3 with h3 | h3
            · exact hki h3.symm
            · have := waitsC_step (ops := ops) (D := fun j => j ≤ k) (fun j hj o ho e he hb => by have := directB_spec hdir ho he hb; show e.on ≤ k; omega) k i (Nat.le_refl _) h3
              have := hlt k hk
              omega
        have hs := pullS hoi hns post pre a w hC hp h
        have hnext : ∀ a' w', (C w' ∨ tailBS S ops i = true ∨ ∀ k ∈ pre ++ i :: post, ∀ o, ops[k]? = some o → loudS S k o.op = true) → wpMixS S P ops C Q (pre ++ post) a' w' → wpAny P .any ops Q' n (listed.setIfInBounds i true) a' w' := by
          intro a' w' hC' hh
          have his : i < listed.size := by omega
          have hC' : C w' ∨ ∀ k ∈ pre ++ post, ∀ o, ops[k]? = some o → loudS S k o.op = true := by
            rcases hC' with h | h | h
            · exact .inl h
            · refine .inr fun k hk o ho => ?_
              have hki : k ≠ i := by
                rcases List.mem_append.1 hk with h | h
                · have := hlt k h; omega
                · have := hgt k h; omega
              have hkl : k ∈ pre ++ i :: post := by
                rcases List.mem_append.1 hk with h | h
                · simp [h]
                · simp [h]
              unfold tailBS at h
              rw [List.all_eq_true] at h
              have h3 := h k (List.mem_range.2 ((hmem k).1 hkl).1)
              simp only [ho, hnw k hki hkl, Bool.or_false, Bool.or_eq_true, beq_iff_eq] at h3
              exact h3.resolve_left hki
            · exact .inr fun k hk => h k (by
                rcases List.mem_append.1 hk with h | h
                · simp [h]
                · simp [h])
          refine ih (pre ++ post) _ a' w' (by simp at hn ⊢; omega) ?_ ?_ (by simp [hsz]) ?_ hC' hh
          · exact List.pairwise_append.2 ⟨hpw'.1, (List.pairwise_cons.1 hpw'.2.1).2, fun x hx y hy => hpw'.2.2 x hx y (.tail _ hy)⟩
          · intro j
            have hj := hmem j
            by_cases hji : j = i
            · subst hji
              simp only [Array.getD, Array.size_setIfInBounds, his, dif_pos]
              constructor
              · intro hh
                rcases List.mem_append.1 hh with h | h
                · have := hlt j h; omega
                · have := hgt j h; omega
              · intro hh; simp at hh
            · rw [getD_set_ne true (Ne.symm hji)]
              rw [← hj]
              simp [hji]
          · intro j o ho hj e he hb
            have gset : ∀ k, (listed.setIfInBounds i true).getD k false = true ↔ k = i ∨ listed.getD k false = true := by
              intro k
              by_cases hki : k = i
              · subst hki; simp [Array.getD, his]
              · rw [getD_set_ne false (Ne.symm hki)]; simp [hki]
            rw [gset] at hj ⊢
            rcases hj with rfl | hj
            · rw [hoi] at ho; injection ho with ho; subst ho
              exact .inr (hpre e he hb)
            · exact .inr (hcl j o ho hj e he hb)
        unfold stepMixS at hs
        unfold wpOp
        simp only [hoi] at hs ⊢
        split
        · rename_i hw
          rw [if_pos hw] at hs
          left
          split at hs
          · exact hs.wp fun v w' hh => hnext _ _ (hh.1.imp id .inl) hh.2
          · rename_i hlo
            obtain ⟨v, hv, hh⟩ := hs
            have hCw : C w := hC.resolve_right fun hh => hlo (hh i (by simp) oi hoi)
            exact (runsTo_value (hv w hCw) (k := fun u w' => u = v ∧ w' = w) ⟨rfl, rfl⟩).wp fun u w' ⟨hu, hw'⟩ => by subst hu; subst hw'; exact hnext _ _ (.inl hCw) hh
        · rename_i hw
          rw [if_neg hw] at hs
          exact hnext _ _ (hC.imp id .inr) hs
  intro l listed a w hpw hmem hsz hcl hC h
  exact key _ l listed a w rfl hpw hmem hsz hcl hC h

theorem region_mixS {id : Nat} {Q : Act → World → Prop} {Q' : Exit → Act → World → Prop} (hQ : ∀ a w, Q a w → Q' .normal a w) (hf : P.follows .mixedOrders = true) (hns : Region.noSelect ops = true) (hm : mixBS S ops = true)
    {a : Act} {w : World} (hC : C { w with drawn := w.drawn + 1 }) (h : wpMixS S P ops C Q (List.range ops.size) a { w with drawn := w.drawn + 1 }) : (Code.region id ops true).wp P Q' a w := by
  refine wp_region_any hf ?_
  have := any_of_mixS (P := P) (C := C) hQ hns hm (List.range ops.size) (Array.replicate ops.size false) a _ List.pairwise_lt_range (fun j => by
    simp only [List.mem_range]
    constructor
    · intro hj; exact ⟨hj, by simp [Array.getD, hj]⟩
    · intro hj; exact hj.1) (by simp) (fun j o ho hj => by
      have hjs : j < ops.size := (Array.getElem?_eq_some_iff.1 ho).1
      simp [Array.getD, hjs] at hj) (.inl hC) h
  simpa using this
end mix

/-- The mixed walk of a region that draws its order. -/
def mixKS (S : Nat → Bool) (P : Program) (N : Nat) (C : World → Prop) (ops : Array Oper) (k : Fr → World → Prop) : Nat → List Oper → Fr → World → Prop
  | _, [], f, w => k f w
  | s, ⟨dst, op, ty, _, _, none⟩ :: rest, f, w =>
    match loudS S s op with
    | true => opV P op ty f w fun v w' => (C w' ∨ tailBS S ops s = true) ∧ mixKS S P N C ops k (s + 1) rest (puto N f dst v) w'
    | false => qopK P C op ty f fun v => mixKS S P N C ops k (s + 1) rest (puto N f dst v) w
  | s, ⟨dst, op, ty, _, _, some (j, want)⟩ :: rest, f, w =>
    match (ops[j]?).bind (·.dst) with
    | some d =>
      match f d with
      | .bool b =>
        match want, loudS S s op with
        | true, true => condB b (opV P op ty f w fun v w' => (C w' ∨ tailBS S ops s = true) ∧ mixKS S P N C ops k (s + 1) rest (puto N f dst v) w') (mixKS S P N C ops k (s + 1) rest (puto N f dst undef) w)
        | true, false => condB b (qopK P C op ty f fun v => mixKS S P N C ops k (s + 1) rest (puto N f dst v) w) (mixKS S P N C ops k (s + 1) rest (puto N f dst undef) w)
        | false, true => condB b (mixKS S P N C ops k (s + 1) rest (puto N f dst undef) w) (opV P op ty f w fun v w' => (C w' ∨ tailBS S ops s = true) ∧ mixKS S P N C ops k (s + 1) rest (puto N f dst v) w')
        | false, false => condB b (mixKS S P N C ops k (s + 1) rest (puto N f dst undef) w) (qopK P C op ty f fun v => mixKS S P N C ops k (s + 1) rest (puto N f dst v) w)
      | _ => mixKS S P N C ops k (s + 1) rest (puto N f dst undef) w
    | none => mixKS S P N C ops k (s + 1) rest (puto N f dst undef) w

theorem mixK_soundS {S : Nat → Bool} {P : Program} {N : Nat} {C : World → Prop} {ops : Array Oper} {k : Fr → World → Prop} : ∀ (l : List Oper) (s : Nat) (f : Fr) (w : World) (a : Act),
    (∀ j, j < l.length → l[j]? = ops[s + j]?) → R N a f → mixKS S P N C ops k s l f w → wpMixS S P ops C (fun a w => ∃ f, R N a f ∧ k f w) (List.range' s l.length) a w := by
  intro l
  induction l with
  | nil => intro s f w a _ hR h; exact ⟨f, hR, h⟩
  | cons o rest ih =>
    intro s f w a hl hR h
    have h0 : ops[s]? = some o := by have := hl 0 (by simp); simpa using this.symm
    have hl' : ∀ j, j < rest.length → rest[j]? = ops[s + 1 + j]? := fun j hj => by
      have := hl (j + 1) (by simp; omega)
      simpa [Nat.add_assoc, Nat.add_comm 1 j] using this
    have next : ∀ v w', mixKS S P N C ops k (s + 1) rest (puto N f o.dst v) w' → wpMixS S P ops C (fun a w => ∃ f, R N a f ∧ k f w) (List.range' (s + 1) rest.length) (a.put o.dst v) w' :=
      fun v w' hh => ih (s + 1) _ _ _ hl' (hR.put _ _) hh
    have run1 : (opV P o.op o.type f w fun v w' => (C w' ∨ tailBS S ops s = true) ∧ mixKS S P N C ops k (s + 1) rest (puto N f o.dst v) w') →
        runsTo P o a.eval w fun v w' => (C w' ∨ tailBS S ops s = true) ∧ wpMixS S P ops C (fun a w => ∃ f, R N a f ∧ k f w) (List.range' (s + 1) rest.length) (a.put o.dst v) w' := by
      intro hh
      have := opV_sound o hh
      rw [← hR.eval] at this
      exact this.mono fun v w' hv => ⟨hv.1, next _ _ hv.2⟩
    have run2 : loudS S s o.op = false → (qopK P C o.op o.type f fun v => mixKS S P N C ops k (s + 1) rest (puto N f o.dst v) w) →
        ∃ v, quietE P C o a v ∧ wpMixS S P ops C (fun a w => ∃ f, R N a f ∧ k f w) (List.range' (s + 1) rest.length) (a.put o.dst v) w := by
      intro hq hh
      obtain ⟨v, hv, hh⟩ := qopK_sound hR (loudS_no hq) hh
      exact ⟨v, hv, next _ _ hh⟩
    simp only [List.length_cons, List.range'_succ, wpMixS, h0]
    obtain ⟨dst, op, ty, pos, after, guard⟩ := o
    cases guard with
    | none =>
      simp only [Region.wanted, if_true]
      simp only [mixKS] at h
      cases hlo : loudS S s op with
      | true => simp only [hlo] at h; rw [if_pos rfl]; exact run1 h
      | false => simp only [hlo] at h; rw [if_neg (by simp)]; exact run2 hlo h
    | some jw =>
      obtain ⟨j, want⟩ := jw
      simp only [mixKS] at h
      simp only [Region.wanted]
      cases hd : (ops[j]?).bind (·.dst) with
      | none =>
        simp only [hd] at h
        have : yielded ops a.tmps j = none := by unfold yielded; simp [hd]
        simp [this]
        exact next _ _ h
      | some d =>
        simp only [hd] at h
        have hy := yielded_eq hR ops j d hd
        cases hfd : f d with
        | bool b =>
          simp only [hfd] at h hy
          cases hlo : loudS S s op <;> cases want <;> cases b <;> simp [condB_eq, hlo] at h <;> simp [hy] <;>
            first | exact run1 h | exact run2 hlo h | exact next _ _ h
        | _ => simp only [hfd] at h hy; simp [hy]; exact next _ _ h

theorem mixK_agreeS {S : Nat → Bool} {P : Program} {N : Nat} {C : World → Prop} {ops : Array Oper} {k : Fr → World → Prop} (D : List Nat) : ∀ (s : Nat) (l : List Oper) (f : Fr) (w : World), (∀ x ∈ dsts l, x ∈ D) →
    mixKS S P N C ops k s l f w → mixKS S P N C ops (fun f' w' => Agree D f' f ∧ k f' w') s l f w := by
  have gen : ∀ (l : List Oper) (s : Nat) (f0 f : Fr) (w : World), Agree D f f0 → (∀ x ∈ dsts l, x ∈ D) → mixKS S P N C ops k s l f w → mixKS S P N C ops (fun f' w' => Agree D f' f0 ∧ k f' w') s l f w := by
    intro l
    induction l with
    | nil => intro s f0 f w ha _ h; exact ⟨ha, h⟩
    | cons o rest ih =>
      intro s f0 f w ha hD h
      obtain ⟨dst, op, ty, pos, after, guard⟩ := o
      have hD' : ∀ x ∈ dsts rest, x ∈ D := fun x hx => hD x (by
        cases dst with
        | none => simpa [dsts] using hx
        | some d => simp only [dsts, List.filterMap_cons]; exact .tail _ hx)
      have hd : ∀ x, dst = some x → x ∈ D := fun x hx => hD x (by subst hx; simp [dsts])
      have nx : ∀ v w', mixKS S P N C ops k (s + 1) rest (puto N f dst v) w' → mixKS S P N C ops (fun f' w' => Agree D f' f0 ∧ k f' w') (s + 1) rest (puto N f dst v) w' :=
        fun v w' hh => ih (s + 1) f0 _ _ ((Agree.puto hd).trans ha) hD' hh
      have r1 : (opV P op ty f w fun v w' => (C w' ∨ tailBS S ops s = true) ∧ mixKS S P N C ops k (s + 1) rest (puto N f dst v) w') → opV P op ty f w fun v w' => (C w' ∨ tailBS S ops s = true) ∧ mixKS S P N C ops (fun f' w' => Agree D f' f0 ∧ k f' w') (s + 1) rest (puto N f dst v) w' :=
        fun hh => opV_mono (fun v w' hv => ⟨hv.1, nx _ _ hv.2⟩) hh
      have r2 : (qopK P C op ty f fun v => mixKS S P N C ops k (s + 1) rest (puto N f dst v) w) → qopK P C op ty f fun v => mixKS S P N C ops (fun f' w' => Agree D f' f0 ∧ k f' w') (s + 1) rest (puto N f dst v) w :=
        fun hh => qopK_mono (fun v hv => nx _ _ hv) hh
      cases guard with
      | none =>
        simp only [mixKS] at h ⊢
        cases hlo : loudS S s op <;> simp only [hlo] at h ⊢
        · exact r2 h
        · exact r1 h
      | some jw =>
        obtain ⟨j, want⟩ := jw
        simp only [mixKS] at h ⊢
        cases hdj : (ops[j]?).bind (·.dst) with
        | none => simp only [hdj] at h ⊢; exact nx _ _ h
        | some d =>
          simp only [hdj] at h ⊢
          cases hfd : f d with
          | bool b =>
            simp only [hfd] at h ⊢
            cases hlo : loudS S s op <;> cases want <;> cases b <;> simp only [hlo, condB_eq, if_true, if_false, Bool.false_eq_true] at h ⊢ <;> first | exact r1 h | exact r2 h | exact nx _ _ h
          | _ => simp only [hfd] at h ⊢; exact nx _ _ h
  exact fun s l f w hD h => gen l s f f w (.refl _ _) hD h

theorem draw_mixS (S : Nat → Bool) {P : Program} {N : Nat} {ops : Array Oper} {k : Fr → World → Prop} {f : Fr} {w : World} (C : World → Prop) (hf : P.follows .mixedOrders = true)
    (hB : (Region.noSelect ops && mixBS S ops) = true) (hC : C w.drew) (h : mixKS S P N C ops k 0 ops.toList f w.drew) : drawK P N ops k f w := by
  unfold drawK
  intro a hR id Q hQ
  simp only [Bool.and_eq_true] at hB
  refine region_mixS (C := C) (Q := fun a w => ∃ f', R N a f' ∧ (Agree (dsts ops.toList) f' f ∧ k f' w)) (fun a w ⟨f, hR, hk⟩ => hQ _ _ _ hR hk.1 hk.2) hf hB.1 hB.2 hC ?_
  have := mixK_soundS ops.toList 0 f w.drew a (fun j _ => by simp) hR (mixK_agreeS (dsts ops.toList) 0 ops.toList f w.drew (fun _ h => h) h)
  simpa [List.range_eq_range'] using this
end Go.Dk
end

section
/- Graphs in memory: what makes nodes, each once. -/
namespace Go.Proofs.Ytjebpngdinbckaa
open Go.Dk
attribute [local irreducible] IntKind.wrap

theorem call_fnG {P : Program} {g : FuncId} {caps : Array Value} {args : List Value} {w : World} {k : Value → World → Prop} {q : Value → World → Prop} (h : Fun P g (args ++ caps.toList) w q) (hk : ∀ v w', q v w' → k v w') :
    callK P (.func (.func g) #[] caps) args w k := by
  unfold callK
  exact h.mono hk
def kaG (c : Int) : Value := .int .i64 c
theorem kaG_inj (a b : Int) (h : kaG a = kaG b) : a = b := by injection h
theorem KLG : KL Try.prog 3 fun v => ∃ a, v = kaG a := (KL.of_now Try.underlying3).mono fun v ⟨a, h⟩ => by subst h; exact rfl
theorem W253G : MapW Try.prog 253 3 3 kaG kaG (.int .i64 0) := ⟨Try.underlying253, KLG, kaG_inj, by kernel_rfl⟩
theorem lookup_toG {P : Program} {t kt et : TypeId} {α β : Type} [DecidableEq α] {ka : α → Value} {vb : β → Value} {z : Value} {w : World} {kk : Value → World → Prop} {l : List (α × β)} {r : Nat} (hr : (mapR ka vb r l).ok w) (W : MapW P t kt et ka vb z) (a : α) {v : Value}
    (hv : ((aget l a).map vb).getD z = v) (h : kk v w) : lookupK P t (.map (some r)) (ka a) false w kk := lookup_at hr W a (by rw [hv]; exact h)
theorem zero230 : zeroT Try.prog 230 = some (k3 0 0 0) := by kernel_rfl
theorem agg230 : aggT Try.prog 230 = some true := by kernel_rfl
theorem size230 : sizeT Try.prog 230 = some 3 := by kernel_rfl
theorem agg146 : aggT Try.prog 146 = some false := by kernel_rfl
theorem size146 : sizeT Try.prog 146 = some 1 := by kernel_rfl
theorem agg237 : aggT Try.prog 237 = some false := by kernel_rfl
theorem agg236 : aggT Try.prog 236 = some false := by kernel_rfl
theorem size236 : sizeT Try.prog 236 = some 1 := by kernel_rfl
theorem size239 : sizeT Try.prog 239 = some 2 := by kernel_rfl
theorem agg239 : aggT Try.prog 239 = some true := by kernel_rfl
theorem T146 : SlT Try.prog 146 230 (k3 0 0 0) 3 24 := ⟨Try.underlying146, by kernel_rfl, rfl, by decide⟩
theorem run_eq230 (a b c a' b' c' : Int) (w : World) : (Op.equal 230 (k3 a b c) (k3 a' b' c')).run Try.prog w = .ok (a == a' && (b == b' && c == c')) w := by
  have hr : ∀ d', (Op.equalIn (d' + 2) 230 (k3 a b c) (k3 a' b' c')).run Try.prog w = .ok (a == a' && (b == b' && c == c')) w := by
    intro d'
    unfold k3
    rw [Op.equalIn]
    have i0 := run_eqInt Try.underlying3 d' a a'
    have i1 := run_eqInt Try.underlying3 d' b b'
    have i2 := run_eqInt Try.underlying3 d' c c'
    have p0 : ∀ (x y z : Int) w, (Go.part 3 #[.int .i64 x, .int .i64 y, .int .i64 z] 0).run Try.prog w = .ok (.int .i64 x) w := fun x y z w => run_part agg3 rfl w
    have p1 : ∀ (x y z : Int) w, (Go.part 3 #[.int .i64 x, .int .i64 y, .int .i64 z] 1).run Try.prog w = .ok (.int .i64 y) w := fun x y z w => run_part agg3 rfl w
    have p2 : ∀ (x y z : Int) w, (Go.part 3 #[.int .i64 x, .int .i64 y, .int .i64 z] 2).run Try.prog w = .ok (.int .i64 z) w := fun x y z w => run_part agg3 rfl w
    generalize (a == a') = b0 at *
    generalize (b == b') = b1 at *
    generalize (c == c') = b2 at *
    have hst : Try.prog.stoodInHeld 230 = false := by kernel_rfl
    simp only [Sem.run_bind, run_underlying Try.underlying230, Result.andThen_ok, Go.Dk.run_sizeOf size230, run_program, hst]
    cases b0 <;> cases b1 <;> cases b2 <;> simp [p0, p1, p2, i0, i1, i2]
  exact hr 9998
theorem check230 (a b c : Int) (em : Bool) (w : World) : (Instr.checkKey em 10000 230 (k3 a b c)).run Try.prog w = .ok () w := by kernel_rfl
theorem asking230 (w : World) (a b c : Int) : ∀ (es : List MapEntry) (i : Nat), (∀ e ∈ es, isK3 e.key) →
    ((Instr.findAsking 230 (k3 a b c) es i).run Try.prog w = .ok none w ∧ ∀ e ∈ es, e.key ≠ k3 a b c) ∨ ∃ j e, (Instr.findAsking 230 (k3 a b c) es i).run Try.prog w = .ok (some (i + j, e.val)) w ∧ es[j]? = some e ∧ e.key = k3 a b c
  | [], i, _ => .inl ⟨by simp [Instr.findAsking], by simp⟩
  | e :: es, i, h => by
    obtain ⟨a', b', c', he⟩ := h e (.head _)
    have hq := run_eq230 a b c a' b' c' w
    by_cases hk : a = a' ∧ b = b' ∧ c = c'
    · obtain ⟨rfl, rfl, rfl⟩ := hk
      exact .inr ⟨0, e, by simp [Instr.findAsking, he, hq], rfl, he⟩
    · have hf : (a == a' && (b == b' && c == c')) = false := by
        rw [Bool.eq_false_iff]; intro hh; simp at hh; exact hk hh
      rw [hf] at hq
      have hne : e.key ≠ k3 a b c := fun hh => hk (by rw [he, k3_inj] at hh; exact ⟨hh.1.symm, hh.2.1.symm, hh.2.2.symm⟩)
      rcases asking230 w a b c es (i + 1) (fun x hx => h x (.tail _ hx)) with ⟨h1, h2⟩ | ⟨j, e', h1, h2, h3⟩
      · refine .inl ⟨by simp [Instr.findAsking, he, hq, h1], fun x hx => ?_⟩
        rcases List.mem_cons.1 hx with rfl | hx
        · exact hne
        · exact h2 x hx
      · exact .inr ⟨j + 1, e', by simp [Instr.findAsking, he, hq, h1]; omega, by simpa using h2, h3⟩
theorem KL230 : KL Try.prog 230 isK3 where
  check := by rintro w em _ ⟨a, b, c, rfl⟩; exact check230 a b c em w
  find := by
    rintro w _ ⟨a, b, c, rfl⟩ es he
    cases es with
    | nil => exact .inl ⟨by simp [Instr.findKey, run_underlying Try.underlying230, Instr.findNow], by simp⟩
    | cons e es =>
      have hn : ∀ fs, Instr.findNow (.struct fs) (k3 a b c) (e :: es) 0 = none := fun fs => rfl
      have := asking230 w a b c (e :: es) 0 he
      simp only [Nat.zero_add] at this
      simp only [Instr.findKey, Sem.run_bind, run_underlying Try.underlying230, Result.andThen_ok, hn]
      exact this
  stays := by
    rintro w _ ⟨a, b, c, rfl⟩
    have : Instr.sameBits 10000 (k3 a b c) (k3 a b c) = true := by
      show (_ && _) = true
      simp [Instr.sameBits]
    simp [Instr.keyThatStays, this]
theorem W237 : MapW Try.prog 237 230 3 kaN vbN (.int .i64 0) := ⟨Try.underlying237, KL230.mono fun _ ⟨n, h⟩ => ⟨_, _, _, h⟩, W196.inj, zero3⟩
/-- How nodes lie. -/
def encI (x : I3) : List Value := [.int .i64 x.1, .int .i64 x.2.1, .int .i64 x.2.2]
theorem encI_length (x : I3) : (encI x).length = 3 := rfl
theorem encI_one (x : I3) : ∀ v ∈ encI x, v.oneCell' = true := by
  intro v hv
  simp [encI] at hv
  rcases hv with rfl | rfl | rfl <;> rfl
def i3 (d : Nd) : I3 := (d.l, d.lo, d.hi)
abbrev ndI (N : List Nd) : List I3 := N.map i3
theorem i3_inj {a b : Nd} (h : i3 a = i3 b) : a = b := by
  obtain ⟨a1, a2, a3⟩ := a
  obtain ⟨b1, b2, b3⟩ := b
  unfold i3 at h
  simp only [Prod.mk.injEq] at h
  obtain ⟨h1, h2, h3⟩ := h
  obtain rfl := Int.ofNat_inj.1 h1
  obtain rfl := Int.ofNat_inj.1 h2
  obtain rfl := Int.ofNat_inj.1 h3
  rfl
theorem ndI_inj : ∀ {N N' : List Nd}, ndI N = ndI N' → N = N'
  | [], [], _ => rfl
  | [], _ :: _, h => by simp at h
  | _ :: _, [], h => by simp at h
  | a :: N, b :: N', h => by
    simp only [List.map_cons, List.cons.injEq] at h
    rw [i3_inj h.1, ndI_inj h.2]
/-- What makes nodes: its head, its nodes, their ids. -/
def mkC (sv : Value) (r : Nat) : Array Value := #[sv, .map (some r)]
def mkP (g r : Nat) (sv : Value) (N : List Nd) : List Res := [blk g 239 (mkC sv r), own 230 3 sv N.length (flat encI (ndI N)), idsR r (arN N)]
def mkR (g r : Nat) (sv : Value) (N : List Nd) : Res := seps (mkP g r sv N)
theorem mkOpen {w0 w : World} {F : Nat → Prop} {L M : List Res} {g r : Nat} {sv : Value} {N : List Nd} (H : Hp w0 F w (mkR g r sv N :: L) M) :
    ∃ l, IdsOk l (arN N) ∧ Hp w0 F w (mapR kaN vbN r l :: blk g 239 (mkC sv r) :: own 230 3 sv N.length (flat encI (ndI N)) :: L) M := by
  have H := H.split
  have H : Hp w0 F w (idsR r (arN N) :: blk g 239 (mkC sv r) :: own 230 3 sv N.length (flat encI (ndI N)) :: L) M := H.front 2 rfl
  obtain ⟨l, hl, hmap⟩ := H.ok _ (.head _)
  exact ⟨l, hl, H.re (r' := mapR kaN vbN r l) (fun _ => hmap) (fun g hg => hg)⟩
theorem mkClose {w0 w : World} {F : Nat → Prop} {L M : List Res} {g r : Nat} {sv : Value} {N : List Nd} {l : List (Nd × Nat)} (hl : IdsOk l (arN N)) (H : Hp w0 F w (mapR kaN vbN r l :: blk g 239 (mkC sv r) :: own 230 3 sv N.length (flat encI (ndI N)) :: L) M) :
    Hp w0 F w (mkR g r sv N :: L) M := by
  have H := H.re (r' := idsR r (arN N)) (fun h => ⟨l, hl, h⟩) (fun g hg => hg)
  have H : Hp w0 F w (own 230 3 sv N.length (flat encI (ndI N)) :: idsR r (arN N) :: blk g 239 (mkC sv r) :: L) M := H.front 2 rfl
  have H : Hp w0 F w (blk g 239 (mkC sv r) :: own 230 3 sv N.length (flat encI (ndI N)) :: idsR r (arN N) :: L) M := H.front 2 rfl
  exact Hp.join (Ls := mkP g r sv N) H
theorem fa239_0 (g : Nat) (w : World) : (Instr.fieldAt 239 (.pointer (some ⟨g, 0, none⟩)) 0).run Try.prog w = .ok (.pointer (some ⟨g, 0, none⟩)) w := by kernel_rfl
theorem fa239_1 (g : Nat) (w : World) : (Instr.fieldAt 239 (.pointer (some ⟨g, 0, none⟩)) 1).run Try.prog w = .ok (.pointer (some ⟨g, 1, none⟩)) w := by kernel_rfl
theorem fa230_0 (g o : Nat) (w : World) : (Instr.fieldAt 230 (.pointer (some ⟨g, o, none⟩)) 0).run Try.prog w = .ok (.pointer (some ⟨g, o, none⟩)) w := by kernel_rfl
theorem fa230_1 (g o : Nat) (w : World) : (Instr.fieldAt 230 (.pointer (some ⟨g, o, none⟩)) 1).run Try.prog w = .ok (.pointer (some ⟨g, o + 1, none⟩)) w := by kernel_rfl
theorem fa230_2 (g o : Nat) (w : World) : (Instr.fieldAt 230 (.pointer (some ⟨g, o, none⟩)) 2).run Try.prog w = .ok (.pointer (some ⟨g, o + 2, none⟩)) w := by kernel_rfl
theorem build239 {r : Nat} {w : World} {kk : Value → World → Prop} (h : kk (.agg (mkC (.slice none 0 0) r)) w) : buildK Try.prog 239 [(1, .map (some r))] w kk :=
  build_by (fun w => by kernel_rfl) h
theorem build230 {a b c : Int} {w : World} {kk : Value → World → Prop} (h : kk (k3 a b c) w) : buildK Try.prog 230 [(0, .int .i64 a), (1, .int .i64 b), (2, .int .i64 c)] w kk :=
  build_by (fun w => by kernel_rfl) h
theorem arN_snoc (N : List Nd) (d : Nd) : arN (N ++ [d]) = putA (arN N) d := (arN_put N d).symm
theorem ent200 : enters Try.prog 200 = true := by kernel_rfl
/-- node. -/
theorem c200 {g r : Nat} {sv : Value} {N : List Nd} (l : Nat) (x y : Nat) (hU : Uniq (arN N)) (hN : N.length ≤ 1000000) (w : World) (h : (mkR g r sv N).ok w) :
    Fun Try.prog 200 [.pointer (some ⟨g, 0, none⟩), k3 l x y] w fun v w' => ∃ sv', v = .int .i64 (nodeN N l x y).2 ∧ Turn w w' (mkR g r sv N) (mkR g r sv' (nodeN N l x y).1) := by
  refine fun_of_W (N := 49) Try.func200 ent200 rfl rfl rfl (by simp) ?_
  have H := Hp.own1 h (fun g hg => by
    obtain ⟨h1, h2, h3⟩ := h
    obtain ⟨s, hs, hg⟩ := hg
    exact h2 s hs g hg)
  obtain ⟨ids, hl, H⟩ := mkOpen H
  obtain ⟨B, c, rfl, hc⟩ := own_form (H.get 2 rfl)
  refine cut_rule (γ := Nat) _ rfl (fun g3 => [(3, .pointer (some ⟨g3, 0, none⟩))]) (fun g3 w' => Hp w (mkR g r (.slice B N.length c) N).foot w' [blk g3 230 (k3c l x y), mapR kaN vbN r ids, blk g 239 (mkC (.slice B N.length c) r), own 230 3 (.slice B N.length c) N.length (flat encI (ndI N))] []) ?_ ?_
  · refine H.box 230 (k3 l x y) (cs := k3c l x y) rfl ?_
    clear H
    intro g3 w1 H
    exact ⟨g3, ⟨rfl, trivial⟩, H⟩
  clear H
  rintro g3 u w1 H
  replace H : Hp _ _ _ _ _ := H
  have hget := hl.get ⟨l, x, y⟩
  by_cases hxy : x = y
  · subst hxy
    have hn : nodeN N l x x = (N, (x : Int)) := by unfold nodeN; rw [if_pos rfl]
    rw [hn]
    refine fieldAddr_by (fa230_1 _ _) ?_
    refine H.load 0 rfl agg3 rfl ?_
    refine fieldAddr_by (fa230_2 _ _) ?_
    refine H.load 0 rfl agg3 rfl ?_
    refine cond_yes (beq_self_eq_true _) ?_
    refine fieldAddr_by (fa230_1 _ _) ?_
    refine H.load 0 rfl agg3 rfl ?_
    exact ⟨_, rfl, (mkClose hl H.forget).outTurn⟩
  have hne : ¬ (x : Int) = y := by omega
  cases hf : findA (arN N) ⟨l, x, y⟩ with
  | some i =>
    have hn : nodeN N l x y = (N, ((i + 2 : Nat) : Int)) := by unfold nodeN; rw [if_neg hne, Int.toNat_natCast, Int.toNat_natCast, hf]
    rw [hn]
    refine fieldAddr_by (fa230_1 _ _) ?_
    refine H.load 0 rfl agg3 rfl ?_
    refine fieldAddr_by (fa230_2 _ _) ?_
    refine H.load 0 rfl agg3 rfl ?_
    refine cond_no (beq_eq_false_iff_ne.2 (by assumption)) ?_
    refine H.draw fol (by kernel_rfl) ?_
    clear H
    intro w8 H
    refine quiet _ (fun w H => fieldAddr_by (fa239_1 _) ⟨rfl, rfl⟩) ?_
    refine quiet _ (fun w H => H.load 2 rfl agg237 rfl ⟨rfl, rfl⟩) ?_
    refine quiet _ (fun w H => H.loadAll 0 rfl agg230 size230 ⟨rfl, rfl⟩) ?_
    have hg : aget ids ⟨l, x, y⟩ = some (i + 2) := by rw [hget, hf]; rfl
    refine quiet _ (fun w H => lookup_hit (H.get 1 rfl) W237 ⟨l, x, y⟩ hg ⟨rfl, rfl⟩) ?_
    refine cond_no rfl ?_
    exact ⟨_, rfl, (mkClose hl H.forget).outTurn⟩
  | none =>
    have hn : nodeN N l x y = (N ++ [⟨l, x, y⟩], ((N.length + 2 : Nat) : Int)) := by unfold nodeN; rw [if_neg hne, Int.toNat_natCast, Int.toNat_natCast, hf]
    rw [hn]
    refine fieldAddr_by (fa230_1 _ _) ?_
    refine H.load 0 rfl agg3 rfl ?_
    refine fieldAddr_by (fa230_2 _ _) ?_
    refine H.load 0 rfl agg3 rfl ?_
    refine cond_no (beq_eq_false_iff_ne.2 (by assumption)) ?_
    refine H.draw fol (by kernel_rfl) ?_
    clear H
    intro w8 H
    refine quiet _ (fun w H => fieldAddr_by (fa239_1 _) ⟨rfl, rfl⟩) ?_
    refine quiet _ (fun w H => H.load 2 rfl agg237 rfl ⟨rfl, rfl⟩) ?_
    refine quiet _ (fun w H => H.loadAll 0 rfl agg230 size230 ⟨rfl, rfl⟩) ?_
    have hg : aget ids ⟨l, x, y⟩ = none := by rw [hget, hf]; rfl
    refine quiet _ (fun w H => lookup_miss (H.get 1 rfl) W237 ⟨l, x, y⟩ hg ⟨rfl, rfl⟩) ?_
    refine cond_yes rfl ?_
    have hw1 : IntKind.i64.wrap ((N.length + 1 : Nat) - 1 : Int) = (N.length : Int) := by rw [wrap_i64_in (by omega) (by omega)]; omega
    have hw2 : IntKind.i64.wrap ((N.length : Int) + 2) = ((N.length + 2 : Nat) : Int) := add2 (by omega)
    refine H.drawC [blk g3 230 (k3c l x y), mapR kaN vbN r ids, blk g 239 (mkC (.slice B N.length c) r)] (fun u H => (H.front 3 rfl).forget) fol (by kernel_rfl) ?_
    clear H
    intro w4 H
    refine quiet _ (fun w H => fieldAddr_by (fa239_0 _) ⟨rfl, rfl⟩) ?_
    refine quiet _ (fun w H => H.load 2 rfl agg146 rfl ⟨rfl, rfl⟩) ?_
    refine quiet _ (fun w H => H.loadAll 0 rfl agg230 size230 ⟨rfl, rfl⟩) ?_
    refine H.buildSl T146 (cs := k3c l x y) (by decide) (by decide) (by kernel_rfl) ?_
    clear H
    intro g5 w5 H
    refine ⟨.inl ((H.forget).front 3 rfl).forget, ?_⟩
    refine H.appendBlk 4 0 T146 rfl rfl rfl (fun v hv => encI_one (l, x, y) v hv) (by omega) (by omega) ?_
    clear H
    intro A6 d6 w6 H
    refine ⟨.inl ((H.forget).front 3 rfl).forget, ?_⟩
    refine quiet _ (fun w H => fieldAddr_by (fa239_0 _) ⟨rfl, rfl⟩) ?_
    refine H.store 3 rfl size146 (by show 0 < 2; omega) rfl ?_
    clear H
    intro w7 H
    refine ⟨.inr rfl, ?_⟩
    refine fieldAddr_by (fa239_0 _) ?_
    refine H.load 3 rfl agg146 rfl ?_
    refine len_sl Try.underlying146 ?_
    refine H.draw fol (by kernel_rfl) ?_
    clear H
    intro w8 H
    refine quiet _ (fun w H => fieldAddr_by (fa239_1 _) ⟨rfl, rfl⟩) ?_
    refine quiet _ (fun w H => H.load 3 rfl agg237 rfl ⟨rfl, rfl⟩) ?_
    refine quiet _ (fun w H => H.loadAll 1 rfl agg230 size230 ⟨rfl, rfl⟩) ?_
    have hw3 : IntKind.i64.wrap (IntKind.i64.wrap ((N.length + 1 : Nat) - 1 : Int) + 2) = ((N.length + 2 : Nat) : Int) := by rw [hw1, hw2]
    refine mapSet_by (congrArg (Value.int .i64) hw3) (H.mapSet 2 rfl W237 ⟨l, x, y⟩ (N.length + 2) ?_)
    clear H
    intro w9 H
    refine ⟨.inr rfl, ?_⟩
    have H : Hp w (mkR g r (.slice B N.length c) N).foot w9 (mapR kaN vbN r (aset ids ⟨l, x, y⟩ (N.length + 2)) :: blk g 239 (mkC (.slice A6 (N.length + 1) d6) r) :: own 230 3 (.slice A6 (N.length + 1) d6) (N.length + 1) (flat encI (ndI N) ++ encI (i3 ⟨l, x, y⟩)) :: []) [] := H.forget.forget
    rw [← flat_snoc] at H
    have hp := ids_put hl hU hf
    rw [arN_free, arN_put] at hp
    have H := mkClose (N := N ++ [⟨l, x, y⟩]) (sv := .slice A6 (N.length + 1) d6) hp (by
      rw [List.length_append]
      show Hp _ _ _ (_ :: _ :: own 230 3 _ (N.length + 1) (flat encI (List.map i3 (N ++ [⟨l, x, y⟩]))) :: []) []
      rw [List.map_append]
      exact H)
    exact ⟨_, congrArg (Value.int .i64) hw3, H.outTurn⟩
end Go.Proofs.Ytjebpngdinbckaa
end

section
/- Graphs: read from the root. -/
namespace Go.Proofs.Ytjebpngdinbckaa
open Go.Dk
attribute [local irreducible] IntKind.wrap

/-- Some parts, in another order. -/
theorem _root_.Go.Dk.Hp.sel {w0 w : World} {F : Nat → Prop} {L L' M : List Res} (H : Hp w0 F w L M) (is : List Nat) (hn : is.Nodup) (hL : is.map (fun i => L[i]?) = L'.map some) : Hp w0 F w L' M := by
  have hmem : ∀ r ∈ L', r ∈ L := fun r hr => by
    have : some r ∈ is.map (fun i => L[i]?) := by rw [hL]; exact List.mem_map.2 ⟨r, hr, rfl⟩
    obtain ⟨i, _, hi⟩ := List.mem_map.1 this
    exact List.mem_of_getElem? hi
  have hd : ∀ (i j : Nat) (r s : Res), i ≠ j → L[i]? = some r → L[j]? = some s → ∀ g, r.foot g → ¬ s.foot g := fun i j r s hij hi hj g hg hg' => by
    obtain ⟨hi1, rfl⟩ := List.getElem?_eq_some_iff.1 hi
    obtain ⟨hj1, rfl⟩ := List.getElem?_eq_some_iff.1 hj
    rcases Nat.lt_or_gt_of_ne hij with h | h
    · exact List.pairwise_iff_getElem.1 H.dis i j hi1 hj1 h g hg hg'
    · exact List.pairwise_iff_getElem.1 H.dis j i hj1 hi1 h g hg' hg
  refine ⟨H.keeps, fun r hr => H.ok r (hmem r hr), fun r hr => H.lt r (hmem r hr), fun r hr => H.new r (hmem r hr), ?_, H.rok, H.rlt, fun q hq s hs => H.rdis q hq s (hmem s hs)⟩
  have hp : (is.map (fun i => L[i]?)).Pairwise fun x y => ∀ r s : Res, x = some r → y = some s → ∀ g, r.foot g → ¬ s.foot g := by
    rw [List.pairwise_map]
    exact (List.nodup_iff_pairwise_ne.1 hn).imp fun hij r s hr hs => hd _ _ r s hij hr hs
  rw [hL, List.pairwise_map] at hp
  exact hp.imp fun h => h _ _ rfl rfl
theorem agg127 : aggT Try.prog 127 = some false := by kernel_rfl
theorem size127 : sizeT Try.prog 127 = some 1 := by kernel_rfl
theorem zero127 : zeroT Try.prog 127 = some .nilFunc := by kernel_rfl
theorem zero253 : zeroT Try.prog 253 = some (.map none) := by kernel_rfl
theorem zero236 : zeroT Try.prog 236 = some (.pointer none) := by kernel_rfl
theorem agg253 : aggT Try.prog 253 = some false := by kernel_rfl
theorem size253 : sizeT Try.prog 253 = some 1 := by kernel_rfl
/-- No more nodes than are read. -/
theorem rd_len {n : Nat} {N : List Nd} {s : RdS} (h : RdInv n N s) : s.1.length ≤ N.length := by
  have hex : ∀ i : Nat, ∃ j : Nat, i < s.1.length → j < N.length ∧ aget s.2 ((j : Int) + 2) = some ((i : Int) + 2) := fun i => by
    by_cases hi : i < s.1.length
    · obtain ⟨id, hid⟩ := h.from_ i s.1[i] (by rw [slot_arN]; exact List.getElem?_eq_getElem hi)
      obtain ⟨h1, h2⟩ := h.rep id _ hid
      rcases lvlA_node h1 with rfl | rfl | ⟨j, d, rfl, hs, _⟩
      · rw [h.zero] at hid; injection hid with hid; omega
      · rw [h.one] at hid; injection hid with hid; omega
      · have := slot_lt hs
        rw [arN_length] at this
        exact ⟨j, fun _ => ⟨this, hid⟩⟩
    · exact ⟨0, fun h => absurd h hi⟩
  have hch := Classical.axiomOfChoice hex
  obtain ⟨f, hf⟩ := hch
  have := len_subG (a := (List.range s.1.length).map f) (b := List.range N.length) (by
    rw [List.nodup_iff_pairwise_ne, List.pairwise_map]
    refine List.Pairwise.imp_of_mem ?_ (List.nodup_iff_pairwise_ne.1 (List.nodup_range (n := s.1.length)))
    intro a b ha hb hne he
    have h1 := (hf a (List.mem_range.1 ha)).2
    have h2 := (hf b (List.mem_range.1 hb)).2
    rw [he, h2] at h1
    injection h1 with h1
    omega) (fun k hk => by
    obtain ⟨i, hi, rfl⟩ := List.mem_map.1 hk
    exact List.mem_range.2 (hf i (List.mem_range.1 hi)).1)
  simpa using this
theorem bld_nonneg {O O' : List Nd} {F : Dk.Fn} {id : Int} (h : Bld O F O' id) : 0 ≤ id := by
  induction h with
  | found hr => exact lvlA_nonneg hr.there
  | node _ _ _ _ _ ih1 _ =>
    unfold nodeN
    split
    · exact ih1
    · split <;> exact Int.natCast_nonneg _
theorem read_met {N : List Nd} {f : Nat} {id x : Int} {s : RdS} (h : aget s.2 id = some x) : readN N (f + 1) id s = (s, x) := by unfold readN; rw [h]
theorem read_new {N : List Nd} {f : Nat} {id : Int} {s : RdS} {d : Nd} (h : aget s.2 id = none) (hd : ndA (arN N) id = some d) : readN N (f + 1) id s =
    (((nodeN (readN N f d.hi (readN N f d.lo s).1).1.1 d.l (readN N f d.lo s).2 (readN N f d.hi (readN N f d.lo s).1).2).1, aset (readN N f d.hi (readN N f d.lo s).1).1.2 id (nodeN (readN N f d.hi (readN N f d.lo s).1).1.1 d.l (readN N f d.lo s).2 (readN N f d.hi (readN N f d.lo s).1).2).2),
      (nodeN (readN N f d.hi (readN N f d.lo s).1).1.1 d.l (readN N f d.lo s).2 (readN N f d.hi (readN N f d.lo s).1).2).2) := by
  conv => lhs; unfold readN
  rw [h, hd]
/-- What reading holds. -/
def rdL (g13 r13 : Nat) (sv : Value) (r14 : Nat) (g8 g9 g7 g3 gm : Nat) (s : RdS) : List Res :=
  [mkR g13 r13 sv s.1, mapR kaG kaG r14 s.2, blk g9 127 #[.func (.func 218) #[] #[.pointer (some ⟨g8, 0, none⟩), .pointer (some ⟨g3, 0, none⟩), .pointer (some ⟨g9, 0, none⟩), .pointer (some ⟨g7, 0, none⟩)]], blk g8 253 #[.map (some r14)], blk g7 236 #[.pointer (some ⟨g13, 0, none⟩)], blk g3 236 #[.pointer (some ⟨gm, 0, none⟩)]]
def rdM (gm r : Nat) (svm : Value) (N : List Nd) : List Res := [blk gm 239 (mkC svm r), own 230 3 svm N.length (flat encI (ndI N))]
theorem ent218 : enters Try.prog 218 = true := by kernel_rfl
theorem c218 {n : Nat} (hn : n ≤ 23) {N : List Nd} (hN : BInv n (arN N)) (hl : N.length ≤ 1000000) (g13 r13 r14 g8 g9 g7 g3 gm rm : Nat) (svm : Value) (w0 : World) (F : Nat → Prop) : ∀ (f : Nat) (id : Int) (s : RdS) (sv : Value) (X : List Res) (w : World), 24 - lvlA (arN N) id < f → 0 ≤ lvlA (arN N) id → RdInv n N s →
    Hp w0 F w (rdL g13 r13 sv r14 g8 g9 g7 g3 gm s ++ X) (rdM gm rm svm N) →
    Fun Try.prog 218 [.int .i64 id, .pointer (some ⟨g8, 0, none⟩), .pointer (some ⟨g3, 0, none⟩), .pointer (some ⟨g9, 0, none⟩), .pointer (some ⟨g7, 0, none⟩)] w fun v w' => ∃ sv', v = .int .i64 (readN N f id s).2 ∧ RdInv n N (readN N f id s).1 ∧ Hp w0 F w' (rdL g13 r13 sv' r14 g8 g9 g7 g3 gm (readN N f id s).1 ++ X) (rdM gm rm svm N)
  | 0, id, s, sv, X, w, hf, h0, hs, H => by have := lvlA_le hN.inv id; omega
  | f + 1, id, s, sv, X, w, hf, h0, hs, H => by
    refine fun_of_W (N := 48) Try.func218 ent218 rfl rfl rfl (by simp) ?_
    have hfin := (read_bld hn hN (f + 1) id s hf h0 hs).1
    cases hg : aget s.2 id with
    | some x =>
      rw [read_met hg]
      refine cut_rule (γ := Unit) _ rfl (fun _ => []) (fun _ w' => Hp w0 F w' (rdL g13 r13 sv r14 g8 g9 g7 g3 gm s ++ X) (rdM gm rm svm N)) ⟨(), trivial, H⟩ ?_
      clear H
      rintro ⟨⟩ u w1 H
      replace H : Hp _ _ _ _ _ := H
      refine H.load 3 rfl agg253 rfl ?_
      refine lookup_hit (H.get 1 rfl) W253G id hg ?_
      refine cond_yes rfl ?_
      exact ⟨sv, rfl, hs, H⟩
    | none =>
      cases hd : ndA (arN N) id with
      | none =>
        exfalso
        rcases nd_none hd h0 with rfl | rfl
        · rw [hs.zero] at hg; cases hg
        · rw [hs.one] at hg; cases hg
      | some d =>
        rw [read_new hg hd] at hfin ⊢
        refine cut_rule (γ := Unit) _ rfl (fun _ => []) (fun _ w' => Hp w0 F w' (rdL g13 r13 sv r14 g8 g9 g7 g3 gm s ++ X) (rdM gm rm svm N)) ⟨(), trivial, H⟩ ?_
        clear H
        rintro ⟨⟩ u w1 H
        replace H : Hp _ _ _ _ _ := H
        refine cut_rule (γ := Unit) _ rfl (fun _ => []) (fun _ w' => Hp w0 F w' (rdL g13 r13 sv r14 g8 g9 g7 g3 gm s ++ X) (rdM gm rm svm N)) ?_ ?_
        · refine H.load 3 rfl agg253 rfl ?_
          refine lookup_miss (H.get 1 rfl) W253G id hg ?_
          refine cond_no rfl ?_
          exact ⟨(), trivial, H⟩
        clear H
        rintro ⟨⟩ u w1 H
        replace H : Hp _ _ _ _ _ := H
        obtain ⟨i, rfl, hsl⟩ := nd_place hd
        rw [slot_arN] at hsl
        have hil := (List.getElem?_eq_some_iff.1 hsl).1
        have hdi : (ndI N)[i]? = some (i3 d) := by rw [List.getElem?_map, hsl]; rfl
        refine cut_rule (γ := Nat) _ rfl (fun g => [(9, .pointer (some ⟨g, 0, none⟩))]) (fun g w' => Hp w0 F w' (rdL g13 r13 sv r14 g8 g9 g7 g3 gm s ++ (blk g 230 (k3c d.l d.lo d.hi) :: X)) (rdM gm rm svm N)) ?_ ?_
        · obtain ⟨B, c, rfl, hc⟩ := own_form (H.ro 1 rfl)
          obtain ⟨gn, rfl⟩ := own_base (H.ro 1 rfl) (by omega)
          refine H.load 5 rfl agg236 rfl ?_
          refine fieldAddr_by (fa239_0 _) ?_
          refine ld_blk (H.ro 0 rfl) agg146 rfl ?_
          refine idxAddr_sl Try.underlying146 size230 i (sub2 (by omega)) hil (o' := i * 3) (by omega) ?_
          refine ld_agg (H.ro 1 rfl) encI_length agg230 size230 i rfl hdi ?_
          refine H.alloc 230 zero230 rfl ?_
          clear H
          intro g2 w2 H
          refine H.storeAll 0 rfl size230 rfl (fun v hv => encI_one (i3 d) v hv) ?_
          clear H
          intro w3 H
          exact ⟨g2, ⟨rfl, trivial⟩, ((((((H.front 6 rfl).front 6 rfl).front 6 rfl).front 6 rfl).front 6 rfl).front 6 rfl)⟩
        clear H
        rintro gd u w2 H
        replace H : Hp _ _ _ _ _ := H
        have hlev := lev_of hN.inv hd
        have hlv := nd_lvl hd
        have IH := c218 hn hN hl g13 r13 r14 g8 g9 g7 g3 gm rm svm w0 F f
        refine cut_rule (γ := Value) _ rfl (fun _ => [(10, .int .i64 (readN N f d.lo s).2)]) (fun sv1 w' => RdInv n N (readN N f d.lo s).1 ∧ Hp w0 F w' (rdL g13 r13 sv1 r14 g8 g9 g7 g3 gm (readN N f d.lo s).1 ++ (blk gd 230 (k3c d.l d.lo d.hi) :: X)) (rdM gm rm svm N)) ?_ ?_
        · refine H.load 2 rfl agg127 rfl ?_
          refine fieldAddr_by (fa230_1 _ _) ?_
          refine H.load 6 rfl agg3 rfl ?_
          refine call_fnG (IH d.lo s sv (blk gd 230 (k3c d.l d.lo d.hi) :: X) _ (by omega) (by omega) hs H) ?_
          rintro _ w3 ⟨sv1, rfl, h1, H⟩
          exact ⟨sv1, ⟨rfl, trivial⟩, h1, H⟩
        clear H
        rintro sv1 u w3 ⟨hs1, H⟩
        replace H : Hp _ _ _ _ _ := H
        have hnn1 := bld_nonneg (read_bld hn hN f d.lo s (by omega) (by omega) hs).2
        generalize readN N f d.lo s = r1 at H hs1 hfin hnn1 ⊢
        refine cut_rule (γ := Value) _ rfl (fun _ => [(11, .int .i64 (readN N f d.hi r1.1).2)]) (fun sv2 w' => RdInv n N (readN N f d.hi r1.1).1 ∧ Hp w0 F w' (rdL g13 r13 sv2 r14 g8 g9 g7 g3 gm (readN N f d.hi r1.1).1 ++ (blk gd 230 (k3c d.l d.lo d.hi) :: X)) (rdM gm rm svm N)) ?_ ?_
        · refine H.load 2 rfl agg127 rfl ?_
          refine fieldAddr_by (fa230_2 _ _) ?_
          refine H.load 6 rfl agg3 rfl ?_
          refine call_fnG (IH d.hi r1.1 sv1 (blk gd 230 (k3c d.l d.lo d.hi) :: X) _ (by omega) (by omega) hs1 H) ?_
          rintro _ w3 ⟨sv2, rfl, h1, H⟩
          exact ⟨sv2, ⟨rfl, trivial⟩, h1, H⟩
        clear H
        rintro sv2 u w4 ⟨hs2, H⟩
        replace H : Hp _ _ _ _ _ := H
        have hnn2 := bld_nonneg (read_bld hn hN f d.hi r1.1 (by omega) (by omega) hs1).2
        generalize readN N f d.hi r1.1 = r2 at H hs2 hfin hnn2 ⊢
        obtain ⟨lo, hlo⟩ := Int.eq_ofNat_of_zero_le (show 0 ≤ r1.2 by exact hnn1)
        obtain ⟨hi, hhi⟩ := Int.eq_ofNat_of_zero_le (show 0 ≤ r2.2 by exact hnn2)
        refine H.drawC ([mapR kaG kaG r14 r2.1.2, blk g9 127 #[.func (.func 218) #[] #[.pointer (some ⟨g8, 0, none⟩), .pointer (some ⟨g3, 0, none⟩), .pointer (some ⟨g9, 0, none⟩), .pointer (some ⟨g7, 0, none⟩)]], blk g8 253 #[.map (some r14)], blk g7 236 #[.pointer (some ⟨g13, 0, none⟩)], blk g3 236 #[.pointer (some ⟨gm, 0, none⟩)]] ++ (blk gd 230 (k3c d.l d.lo d.hi) :: X)) (fun u H => Hp.forget H) fol (by kernel_rfl) ?_
        clear H
        intro w5 H
        refine quiet _ (fun w H => H.load 2 rfl agg253 rfl ⟨rfl, rfl⟩) ?_
        refine quiet _ (fun w H => H.load 3 rfl agg236 rfl ⟨rfl, rfl⟩) ?_
        refine quiet _ (fun w H => fieldAddr_by (fa230_0 _ _) ⟨rfl, rfl⟩) ?_
        refine quiet _ (fun w H => H.load 5 rfl agg3 rfl ⟨rfl, rfl⟩) ?_
        refine quiet _ (fun w H => build230 ⟨rfl, rfl⟩) ?_
        have hc := c200 (g := g13) (r := r13) (sv := sv2) d.l lo hi hs2.inv.inv.uniq (by have := rd_len hs2; omega) _ (H.get 0 rfl)
        rw [← hlo, ← hhi] at hc
        refine call_fn hc ?_
        rintro _ w6 ⟨sv3, rfl, ht⟩
        replace H := H.turnBy 0 rfl ht
        refine ⟨.inl (Hp.forget H), ?_⟩
        refine H.mapSet 1 rfl W253G ((i : Int) + 2) (nodeN r2.1.1 d.l r1.2 r2.2).2 ?_
        clear H
        intro w7 H
        refine ⟨.inr rfl, ?_⟩
        have H : Hp w0 F w7 (rdL g13 r13 sv3 r14 g8 g9 g7 g3 gm ((nodeN r2.1.1 d.l r1.2 r2.2).1, aset r2.1.2 ((i : Int) + 2) (nodeN r2.1.1 d.l r1.2 r2.2).2) ++ (blk gd 230 (k3c d.l d.lo d.hi) :: X)) (rdM gm rm svm N) := H
        refine H.load 3 rfl agg253 rfl ?_
        refine lookup_toG (H.get 1 rfl) W253G ((i : Int) + 2) (by rw [aget_aset, if_pos rfl]) ?_
        exact ⟨sv3, rfl, hfin, Hp.forget (H.front 6 rfl)⟩
theorem mkCl2 {P : Program} {fn : Fn} {a c : List Value} {w : World} {k : Value → World → Prop} (h : k (.func fn a.toArray c.toArray) w) : makeFuncK P fn a c w k := by
  unfold makeFuncK
  exact ⟨_, w, by simp [Instr.makeFunc], h⟩
/-- A graph's value, and its parts. -/
def grV (vo vn : Value) (r : Int) : Value := .agg #[vo, vn, .int .i64 r]
def grC (vo vn : Value) (r : Int) : Array Value := #[vo, vn, .int .i64 r]
def grR (vo vn : Value) (o : List Int) (N : List Nd) : Res := seps [own 3 1 vo o.length (intsI o), own 230 3 vn N.length (flat encI (ndI N))]
theorem zero148 : zeroT Try.prog 148 = some (grV (.slice none 0 0) (.slice none 0 0) 0) := by kernel_rfl
theorem agg148 : aggT Try.prog 148 = some true := by kernel_rfl
theorem size148 : sizeT Try.prog 148 = some 3 := by kernel_rfl
theorem build148 {A B : Option Addr} {n c m d : Nat} {r : Int} {w : World} {kk : Value → World → Prop} (h : kk (grV (.slice A n c) (.slice B m d) r) w) : buildK Try.prog 148 [(0, .slice A n c), (1, .slice B m d), (2, .int .i64 r)] w kk :=
  build_by (fun w => by kernel_rfl) h
theorem grC_one (A B : Option Addr) (n c m d : Nat) (r : Int) : ∀ v ∈ (grC (.slice A n c) (.slice B m d) r).toList, v.oneCell' = true := by
  intro v hv
  simp [grC] at hv
  rcases hv with rfl | rfl | rfl <;> rfl
def rd0 (N : List Nd) (root : Int) : RdS × Int := readN N 26 root ([], [(0, 0), (1, 1)])
theorem ent201 : enters Try.prog 201 = true := by kernel_rfl
theorem c201 {n : Nat} (hn : n ≤ 23) {N : List Nd} (hN : BInv n (arN N)) (hl : N.length ≤ 1000000) (gm rm : Nat) (svm : Value) (o : List Int) (B : Option Addr) (c : Nat) (ho : o.length ≤ 1000000) (root : Int) (h0 : 0 ≤ lvlA (arN N) root) (w : World) (hm : (mkR gm rm svm N).ok w) (hS : Sl w (.slice B o.length c) 1 o.length (intsI o)) :
    Fun Try.prog 201 [.pointer (some ⟨gm, 0, none⟩), .slice B o.length c, .int .i64 root] w fun v w' => ∃ vo vn, v = grV vo vn (rd0 N root).2 ∧ NewR w w' (grR vo vn o (rd0 N root).1.1) := by
  refine fun_of_W (N := 29) Try.func201 ent201 rfl rfl rfl (by simp) ?_
  have H : Hp w (fun _ => False) w [] (rdM gm rm svm N) := by
    obtain ⟨h1, h2, _⟩ := hm
    refine Hp.start w _ _ (fun s hs => ?_) (fun s hs => ?_)
    · unfold rdM at hs
      rcases List.mem_cons.1 hs with rfl | hs
      · exact h1 _ (by simp [mkP])
      · rw [List.mem_singleton] at hs; subst hs; exact h1 _ (by simp [mkP])
    · unfold rdM at hs
      rcases List.mem_cons.1 hs with rfl | hs
      · exact h2 _ (by simp [mkP])
      · rw [List.mem_singleton] at hs; subst hs; exact h2 _ (by simp [mkP])
  refine cut_rule (γ := Nat × Nat) _ rfl (fun (g3, g6) => [(3, .pointer (some ⟨g3, 0, none⟩)), (6, .pointer (some ⟨g6, 0, none⟩))]) (fun (g3, g6) w' => Hp w (fun _ => False) w' [blk g6 148 (grC (.slice none 0 0) (.slice none 0 0) 0), blk g3 236 #[.pointer (some ⟨gm, 0, none⟩)]] (rdM gm rm svm N)) ?_ ?_
  · refine H.box 236 (.pointer (some ⟨gm, 0, none⟩)) (cs := #[.pointer (some ⟨gm, 0, none⟩)]) rfl ?_
    clear H
    intro g3 w1 H
    refine H.alloc 148 (cs := grC (.slice none 0 0) (.slice none 0 0) 0) zero148 rfl ?_
    clear H
    intro g6 w2 H
    exact ⟨(g3, g6), ⟨rfl, rfl, trivial⟩, H⟩
  clear H
  rintro ⟨g3, g6⟩ u w1 H
  replace H : Hp _ _ _ _ _ := H
  refine cut_rule (γ := Nat × Nat × Nat) _ rfl (fun (g7, g13, r13) => [(7, .pointer (some ⟨g7, 0, none⟩))]) (fun (g7, g13, r13) w' => Hp w (fun _ => False) w' [mkR g13 r13 (.slice none 0 0) [], blk g7 236 #[.pointer (some ⟨g13, 0, none⟩)], blk g6 148 (grC (.slice none 0 0) (.slice none 0 0) 0), blk g3 236 #[.pointer (some ⟨gm, 0, none⟩)]] (rdM gm rm svm N)) ?_ ?_
  · refine H.makeMap kaN vbN ?_
    clear H
    intro r13 w2 H
    refine build239 ?_
    refine H.box 239 _ (cs := mkC (.slice none 0 0) r13) rfl ?_
    clear H
    intro g13 w3 H
    refine H.alloc 236 (cs := #[.pointer none]) zero236 rfl ?_
    clear H
    intro g7 w4 H
    refine H.store 0 rfl size236 (by simp) rfl ?_
    clear H
    intro w5 H
    have H := H.ownNil 230 3
    have H : Hp w (fun _ => False) w5 (own 230 3 (.slice none 0 0) 0 [] :: blk g7 236 #[.pointer (some ⟨g13, 0, none⟩)] :: blk g13 239 (mkC (.slice none 0 0) r13) :: mapR kaN vbN r13 [] :: blk g6 148 (grC (.slice none 0 0) (.slice none 0 0) 0) :: blk g3 236 #[.pointer (some ⟨gm, 0, none⟩)] :: []) (rdM gm rm svm N) := H
    have H := mkClose (N := []) (l := []) ids_nil ((H.front 2 rfl).front 3 rfl)
    exact ⟨(g7, g13, r13), ⟨rfl, trivial⟩, H⟩
  clear H
  rintro ⟨g7, g13, r13⟩ u w2 H
  replace H : Hp _ _ _ _ _ := H
  refine cut_rule (γ := Nat × Nat) _ rfl (fun (g8, r14) => [(8, .pointer (some ⟨g8, 0, none⟩))]) (fun (g8, r14) w' => Hp w (fun _ => False) w' [mkR g13 r13 (.slice none 0 0) [], mapR kaG kaG r14 [(0, 0), (1, 1)], blk g8 253 #[.map (some r14)], blk g7 236 #[.pointer (some ⟨g13, 0, none⟩)], blk g3 236 #[.pointer (some ⟨gm, 0, none⟩)], blk g6 148 (grC (.slice none 0 0) (.slice none 0 0) 0)] (rdM gm rm svm N)) ?_ ?_
  · refine H.makeMap kaG kaG ?_
    clear H
    intro r14 w3 H
    refine H.mapSet 0 rfl W253G 0 0 ?_
    clear H
    intro w4 H
    refine H.mapSet 0 rfl W253G 1 1 ?_
    clear H
    intro w5 H
    refine H.alloc 253 (cs := #[.map none]) zero253 rfl ?_
    clear H
    intro g8 w6 H
    refine H.store 0 rfl size253 (by simp) rfl ?_
    clear H
    intro w7 H
    exact ⟨(g8, r14), ⟨rfl, trivial⟩, H.sel [2, 1, 0, 3, 5, 4] (by decide) rfl⟩
  clear H
  rintro ⟨g8, r14⟩ u w3 H
  replace H : Hp _ _ _ _ _ := H
  refine cut_rule (γ := Nat) _ rfl (fun g9 => [(9, .pointer (some ⟨g9, 0, none⟩))]) (fun g9 w' => Hp w (fun _ => False) w' [mkR g13 r13 (.slice none 0 0) [], mapR kaG kaG r14 [(0, 0), (1, 1)], blk g9 127 #[.nilFunc], blk g8 253 #[.map (some r14)], blk g7 236 #[.pointer (some ⟨g13, 0, none⟩)], blk g3 236 #[.pointer (some ⟨gm, 0, none⟩)], blk g6 148 (grC (.slice none 0 0) (.slice none 0 0) 0)] (rdM gm rm svm N)) ?_ ?_
  · refine H.alloc 127 (cs := #[.nilFunc]) zero127 rfl ?_
    clear H
    intro g9 w4 H
    exact ⟨g9, ⟨rfl, trivial⟩, H.sel [1, 2, 0, 3, 4, 5, 6] (by decide) rfl⟩
  clear H
  rintro g9 u w4 H
  replace H : Hp _ _ _ _ _ := H
  refine cut_rule (γ := Unit) _ rfl (fun _ => []) (fun _ w' => Hp w (fun _ => False) w' (rdL g13 r13 (.slice none 0 0) r14 g8 g9 g7 g3 gm ([], [(0, 0), (1, 1)]) ++ [blk g6 148 (grC (.slice none 0 0) (.slice none 0 0) 0)]) (rdM gm rm svm N)) ?_ ?_
  · refine mkCl2 ?_
    refine H.store 2 rfl size127 (by simp) rfl ?_
    clear H
    intro w5 H
    exact ⟨(), trivial, H⟩
  clear H
  rintro ⟨⟩ u w5 H
  replace H : Hp _ _ _ _ _ := H
  refine cut_rule (γ := Value) _ rfl (fun _ => [(10, .int .i64 (rd0 N root).2)]) (fun sv' w' => RdInv n N (rd0 N root).1 ∧ Hp w (fun _ => False) w' (rdL g13 r13 sv' r14 g8 g9 g7 g3 gm (rd0 N root).1 ++ [blk g6 148 (grC (.slice none 0 0) (.slice none 0 0) 0)]) (rdM gm rm svm N)) ?_ ?_
  · refine H.load 2 rfl agg127 rfl ?_
    refine call_fnG (c218 hn hN hl g13 r13 r14 g8 g9 g7 g3 gm rm svm w (fun _ => False) 26 root ([], [(0, 0), (1, 1)]) (.slice none 0 0) [blk g6 148 (grC (.slice none 0 0) (.slice none 0 0) 0)] _ (by omega) h0 (rd_start n N) H) ?_
    rintro _ w6 ⟨sv', rfl, h1, H⟩
    exact ⟨sv', ⟨rfl, trivial⟩, h1, H⟩
  clear H
  rintro sv' u w6 ⟨hinv, H⟩
  replace H : Hp _ _ _ _ _ := H
  have hlen := rd_len hinv
  generalize rd0 N root = q at H hinv hlen ⊢
  obtain ⟨⟨O, D⟩, x⟩ := q
  obtain ⟨ids, hids, H⟩ := mkOpen (L := [mapR kaG kaG r14 D, blk g9 127 #[.func (.func 218) #[] #[.pointer (some ⟨g8, 0, none⟩), .pointer (some ⟨g3, 0, none⟩), .pointer (some ⟨g9, 0, none⟩), .pointer (some ⟨g7, 0, none⟩)]], blk g8 253 #[.map (some r14)], blk g7 236 #[.pointer (some ⟨g13, 0, none⟩)], blk g3 236 #[.pointer (some ⟨gm, 0, none⟩)], blk g6 148 (grC (.slice none 0 0) (.slice none 0 0) 0)]) H
  have H : Hp w (fun _ => False) w6 [blk g6 148 (grC (.slice none 0 0) (.slice none 0 0) 0), blk g7 236 #[.pointer (some ⟨g13, 0, none⟩)], blk g13 239 (mkC sv' r13), own 230 3 sv' O.length (flat encI (ndI O))] (rdM gm rm svm N) := H.sel [8, 6, 1, 2] (by decide) rfl
  obtain ⟨Bn, cn, rfl, _⟩ := own_form (H.get 3 rfl)
  refine H.draw fol (by kernel_rfl) ?_
  clear H
  intro w7 H
  refine Hp.buildNil H T32 ?_
  clear H
  intro g20 w8 H
  refine ⟨.inl H.forget, ?_⟩
  refine Hp.appendCopy H 0 T32 rfl (hS.same H.keeps) (intsI_one _) (by omega) (by omega) ?_
  clear H
  intro A d w9 H
  refine ⟨.inl H.forget, ?_⟩
  refine quiet _ (fun w H => H.load 1 rfl agg236 rfl ⟨rfl, rfl⟩) ?_
  refine quiet _ (fun w H => fieldAddr_by (fa239_0 _) ⟨rfl, rfl⟩) ?_
  refine quiet _ (fun w H => H.load 2 rfl agg146 rfl ⟨rfl, rfl⟩) ?_
  refine quiet _ (fun w H => build148 ⟨rfl, rfl⟩) ?_
  have H : Hp w (fun _ => False) w9 [own 3 1 (.slice A o.length d) o.length (intsI o), blk g6 148 (grC (.slice none 0 0) (.slice none 0 0) 0), blk g7 236 #[.pointer (some ⟨g13, 0, none⟩)], blk g13 239 (mkC (.slice Bn O.length cn) r13), own 230 3 (.slice Bn O.length cn) O.length (flat encI (ndI O))] (rdM gm rm svm N) := H
  refine H.storeAll 1 rfl size148 rfl (grC_one _ _ _ _ _ _ _) ?_
  clear H
  intro w10 H
  refine ⟨.inr rfl, ?_⟩
  refine H.loadAll 1 rfl agg148 size148 ?_
  have H : Hp w (fun _ => False) w10 ([own 3 1 (.slice A o.length d) o.length (intsI o), own 230 3 (.slice Bn O.length cn) O.length (flat encI (ndI O))] ++ []) (rdM gm rm (svm) N) := H.sel [0, 4] (by decide) rfl
  refine ⟨rfl, ?_⟩
  exact ⟨.slice A o.length d, .slice Bn O.length cn, rfl, H.join.out⟩
end Go.Proofs.Ytjebpngdinbckaa
end

section
/- Graphs: which are right, plain. -/
namespace Go.Proofs.Ytjebpngdinbckaa
open Go.Dk

/-- Nodes name lesser ones alone. -/
def Topo (P : List Nd) : Prop := ∀ i d, P[i]? = some d → d.lo < i + 2 ∧ d.hi < i + 2
theorem Topo.nil : Topo [] := fun i d h => by simp at h
theorem Topo.snoc {P : List Nd} {d : Nd} (h : Topo P) (h1 : d.lo < P.length + 2) (h2 : d.hi < P.length + 2) : Topo (P ++ [d]) := fun i e hi => by
  by_cases hl : i < P.length
  · rw [List.getElem?_append_left hl] at hi; exact h i e hi
  · have := (List.getElem?_eq_some_iff.1 hi).1
    have hil : i = P.length := by simp at this; omega
    subst hil
    simp at hi
    subst hi
    exact ⟨h1, h2⟩
theorem Topo.take {P : List Nd} (h : Topo P) (k : Nat) : Topo (P.take k) := fun i d hi => by
  rw [List.getElem?_take] at hi
  split at hi
  · exact h i d hi
  · cases hi
/-- The level of an id among some nodes, as it is asked. -/
def levP (k : Nat) (P : List Nd) (x : Int) : Int :=
  if x = 0 ∨ x = 1 then (k : Int) else if 2 ≤ x ∧ x < P.length + 2 then (match P[(x - 2).toNat]? with | some d => (d.l : Int) | none => -1) else -1
theorem levP_id {k : Nat} {P : List Nd} {x : Int} (h : 0 ≤ levP k P x) : 0 ≤ x ∧ x < P.length + 2 := by
  unfold levP at h
  split at h
  · omega
  · split at h
    · omega
    · exact absurd h (by decide)
theorem levP_lvl {k : Nat} {P : List Nd} {x : Nat} {l : Nat} (hk : k ≤ 24) (hl : (l : Int) < levP k P x) : (l : Int) < lvlA (arN P) x ∧ x < P.length + 2 := by
  have hx := levP_id (show 0 ≤ levP k P x by omega)
  refine ⟨?_, by omega⟩
  unfold levP at hl
  split at hl
  · rename_i h; rw [lvl_end h]; omega
  · rename_i h
    rw [if_pos (by omega)] at hl
    obtain ⟨j, rfl⟩ : ∃ j, x = j + 2 := ⟨x - 2, by omega⟩
    rw [show (((j + 2 : Nat) : Int) - 2).toNat = j by omega] at hl
    cases hj : P[j]? with
    | none => rw [hj] at hl; exact absurd hl (by show ¬ (l : Int) < -1; omega)
    | some d =>
      rw [hj] at hl
      have := lvlA_slot (A := arN P) (i := j) (n := d) (by rw [slot_arN]; exact hj)
      rw [show ((j + 2 : Nat) : Int) = (j : Int) + 2 by omega, this]
      exact hl
theorem levP_of {k : Nat} {P : List Nd} (h : BInv k (arN P)) (ht : Topo P) {i : Nat} {d : Nd} (hi : P[i]? = some d) : (d.l : Int) < levP k (P.take i) d.lo ∧ (d.l : Int) < levP k (P.take i) d.hi := by
  have hs : slot (arN P) i = some d := by rw [slot_arN]; exact hi
  have hil := (List.getElem?_eq_some_iff.1 hi).1
  have hl := h.inv.lev i d hs
  have hk := h.lt i d hs
  have htd := ht i d hi
  have key : ∀ x : Nat, x < i + 2 → (d.l : Int) < lvlA (arN P) x → (d.l : Int) < levP k (P.take i) x := fun x hx hlv => by
    unfold levP
    split
    · omega
    · rename_i hne
      rw [if_pos (by rw [List.length_take]; omega)]
      obtain ⟨j, rfl⟩ : ∃ j, x = j + 2 := ⟨x - 2, by omega⟩
      rw [show (((j + 2 : Nat) : Int) - 2).toNat = j by omega, List.getElem?_take, if_pos (by omega)]
      have hj : j < P.length := by omega
      rw [List.getElem?_eq_getElem hj]
      have := lvlA_slot (A := arN P) (i := j) (n := P[j]) (by rw [slot_arN]; exact List.getElem?_eq_getElem hj)
      rw [show ((j + 2 : Nat) : Int) = (j : Int) + 2 by omega, this] at hlv
      exact hlv
  exact ⟨key _ htd.1 hl.1, key _ htd.2 hl.2⟩
theorem binv_snoc {k : Nat} (hk : k ≤ 23) {P : List Nd} {d : Nd} (h : BInv k (arN P)) (hf : findA (arN P) d = none) (h1 : (d.l : Int) < levP k P d.lo) (h2 : (d.l : Int) < levP k P d.hi) (hne : d.lo ≠ d.hi) : BInv k (arN (P ++ [d])) := by
  have l1 := levP_lvl (by omega) h1
  have l2 := levP_lvl (by omega) h2
  rw [← arN_put]
  have hdk : d.l < k := by
    have : levP k P d.lo ≤ k ∨ ∃ (j : Nat) (e : Nd), P[j]? = some e ∧ levP k P d.lo = e.l := by
      unfold levP
      split
      · exact .inl (Int.le_refl _)
      · split
        · cases hj : P[((d.lo : Int) - 2).toNat]? with
          | none => exact .inl (by show (-1 : Int) ≤ k; omega)
          | some e => exact .inr ⟨_, e, hj, rfl⟩
        · exact .inl (by show (-1 : Int) ≤ k; omega)
    rcases this with h3 | ⟨j, e, hj, h3⟩
    · omega
    · have := h.lt j e (by rw [slot_arN]; exact hj)
      omega
  refine ⟨inv_put h.inv hf l1.1 l2.1, fun i e he => ?_, fun i e he => ?_⟩
  · rw [slot_put] at he
    split at he
    · injection he with he; subst he; exact hdk
    · exact h.lt i e he
  · rw [slot_put] at he
    split at he
    · injection he with he; subst he; exact hne
    · exact h.ne i e he
theorem topo_snoc {k : Nat} {P : List Nd} {d : Nd} (h : Topo P) (h1 : (d.l : Int) < levP k P d.lo) (h2 : (d.l : Int) < levP k P d.hi) : Topo (P ++ [d]) := by
  have l1 := levP_id (show 0 ≤ levP k P d.lo by omega)
  have l2 := levP_id (show 0 ≤ levP k P d.hi by omega)
  exact h.snoc (by omega) (by omega)
/-- A graph that is right. -/
structure RightG (o : List Int) (N : List I3) (root : Int) (P : List Nd) : Prop where
  ord : OrdI o
  nds : ndI P = N
  inv : BInv o.length (arN P)
  topo : Topo P
  root0 : 0 ≤ root
  root1 : root < P.length + 2
  read : (rd0 P root).1.1 = P ∧ (rd0 P root).2 = root
theorem there_of {P : List Nd} {root : Int} (h0 : 0 ≤ root) (h1 : root < P.length + 2) : 0 ≤ lvlA (arN P) root := by
  by_cases h : root = 0 ∨ root = 1
  · rw [lvl_end h]; decide
  · obtain ⟨j, rfl⟩ : ∃ j : Nat, root = (j : Int) + 2 := ⟨(root - 2).toNat, by omega⟩
    rw [lvlA_slot (A := arN P) (i := j) (n := P[j]'(by omega)) (by rw [slot_arN]; exact List.getElem?_eq_getElem (by omega))]
    omega
theorem RightG.there {o : List Int} {N : List I3} {root : Int} {P : List Nd} (h : RightG o N root P) : 0 ≤ lvlA (arN P) root := there_of h.root0 h.root1
theorem RightG.graph {o : List Int} {N : List I3} {root : Int} {P : List Nd} (h : RightG o N root P) : IsGraph (sem (arN P) root) P root := by
  have hn : o.length ≤ 23 := by have := h.ord.le; omega
  have := read_graph hn h.inv h.there
  have h2 := h.read
  unfold rd0 at h2
  rwa [h2.1, h2.2] at this
theorem nodeN_topo {N : List Nd} {k : Nat} {lo hi : Int} (h : Topo N) (h0 : 0 ≤ lo ∧ lo < N.length + 2) (h1 : 0 ≤ hi ∧ hi < N.length + 2) : Topo (nodeN N k lo hi).1 ∧ 0 ≤ (nodeN N k lo hi).2 ∧ (nodeN N k lo hi).2 < (nodeN N k lo hi).1.length + 2 := by
  unfold nodeN
  split
  · exact ⟨h, h0⟩
  · cases hf : findA (arN N) ⟨k, lo.toNat, hi.toNat⟩ with
    | some i =>
      have := slot_lt (findA_slot hf)
      rw [arN_length] at this
      exact ⟨h, Int.natCast_nonneg _, by show ((i + 2 : Nat) : Int) < (N.length : Int) + 2; omega⟩
    | none =>
      refine ⟨h.snoc (by show lo.toNat < _; omega) (by show hi.toNat < _; omega), Int.natCast_nonneg _, ?_⟩
      show ((N.length + 2 : Nat) : Int) < ((N ++ [_]).length : Nat) + 2
      rw [List.length_append]
      show _ < ((N.length + 1 : Nat) : Int) + 2
      omega
theorem rep_id {N : List Nd} {id : Int} {F : Dk.Fn} (h : Rep (arN N) id F) : 0 ≤ id ∧ id < N.length + 2 := by
  rcases lvlA_node h.there with rfl | rfl | ⟨i, d, rfl, hs, _⟩
  · omega
  · omega
  · have := slot_lt hs
    rw [arN_length] at this
    omega
theorem bld_topo {O O' : List Nd} {F : Dk.Fn} {id : Int} (h : Bld O F O' id) : Topo O → Topo O' ∧ 0 ≤ id ∧ id < O'.length + 2 := by
  induction h with
  | found hr => exact fun h => ⟨h, rep_id hr⟩
  | node _ _ _ b1 b2 ih1 ih2 =>
    intro h
    obtain ⟨t1, a1, a2⟩ := ih1 h
    obtain ⟨t2, c1, c2⟩ := ih2 t1
    have := bld_len b2
    exact nodeN_topo t2 ⟨a1, by omega⟩ ⟨c1, c2⟩
/-- The graph of what hangs on an order's inputs is right. -/
theorem graph_right {o : List Int} (ho : OrdI o) {F : Dk.Fn} (hF : Low o.length F) {P : List Nd} {root : Int} (h : IsGraph F P root) : RightG o (ndI P) root P := by
  have hn : o.length ≤ 23 := by have := ho.le; omega
  have hm := graph_made hn hF h
  obtain ⟨t, r0, r1⟩ := bld_topo h Topo.nil
  have hs : sem (arN P) root = F := by funext a; exact hm.ok.says a
  have hr := read_graph hn hm.inv (there_of r0 r1)
  rw [hs] at hr
  obtain ⟨e1, e2⟩ := graph_det hn hF hr h
  exact ⟨ho, rfl, hm.inv, t, r0, r1, e1, e2⟩
end Go.Proofs.Ytjebpngdinbckaa
end

section
/- Graphs: may, same, Right. -/
namespace Go.Proofs.Ytjebpngdinbckaa
open Go.Dk
attribute [local irreducible] IntKind.wrap

theorem ent202 : enters Try.prog 202 = true := by kernel_rfl
theorem c202 (o : List Int) (B : Option Addr) (c : Nat) (w : World) (hl : o.length ≤ 9223372036854775807) (hS : Sl w (.slice B o.length c) 1 o.length (intsI o)) :
    Fun Try.prog 202 [.slice B o.length c] w fun v w' => v = .bool (decide (OrdI o)) ∧ Same w w' := by
  refine fun_of_W (N := 12) Try.func202 ent202 rfl rfl rfl (by simp) ?_
  have H := Hp.start0 w
  refine cut_rule (γ := Unit) _ rfl (fun _ => []) (fun _ w' => Hp w (fun _ => False) w' [] []) ⟨(), trivial, H⟩ ?_
  clear H
  rintro ⟨⟩ u w0 H
  replace H : Hp _ _ _ _ _ := H
  have hnil : Sl w0 (.slice none 0 0) 4 0 (flat encZ []) := Sl.empty rfl rfl
  have hc := c97 [] o none B 0 c w0 (by decide) (fun s hs => by cases hs) hl hnil (hS.same H.keeps)
  have hm : MayS [] o ↔ OrdI o := ⟨fun h => h.2.1, fun h => ⟨by decide, h, fun s hs => by cases hs⟩⟩
  refine call_fn hc ?_
  rintro _ w1 ⟨rfl, hk⟩
  replace H := H.same hk
  by_cases ho : OrdI o
  · rw [if_pos (hm.2 ho), decide_eq_true ho]
    exact ⟨rfl, H.keeps⟩
  · rw [if_neg (fun h => ho (hm.1 h)), decide_eq_false ho]
    exact ⟨rfl, H.keeps⟩
theorem egt230 : Try.prog.eqGuardType Try.prog.depth 230 = false := by kernel_rfl
theorem bin_neq230 {x y : I3} {xo yo : Operand} {w : World} {kk : Value → World → Prop} (h : kk (.bool (decide (x ≠ y))) w) : binK Try.prog .neq 230 xo yo (.agg (encI x).toArray) (.agg (encI y).toArray) w kk := by
  obtain ⟨a, b, c⟩ := x
  obtain ⟨a', b', c'⟩ := y
  refine bin_neq_agg egt230 (run_eq230 a b c a' b' c') ?_
  have e : (!(a == a' && (b == b' && c == c'))) = decide ((a, b, c) ≠ (a', b', c')) := by
    rw [Bool.eq_iff_iff]; simp
  rw [e]; exact h
theorem fa148_0 (g : Nat) (w : World) : (Instr.fieldAt 148 (.pointer (some ⟨g, 0, none⟩)) 0).run Try.prog w = .ok (.pointer (some ⟨g, 0, none⟩)) w := by kernel_rfl
theorem fa148_1 (g : Nat) (w : World) : (Instr.fieldAt 148 (.pointer (some ⟨g, 0, none⟩)) 1).run Try.prog w = .ok (.pointer (some ⟨g, 1, none⟩)) w := by kernel_rfl
theorem fa148_2 (g : Nat) (w : World) : (Instr.fieldAt 148 (.pointer (some ⟨g, 0, none⟩)) 2).run Try.prog w = .ok (.pointer (some ⟨g, 2, none⟩)) w := by kernel_rfl
theorem ent205 : enters Try.prog 205 = true := by kernel_rfl
theorem c205 (na nb : Nat) (ca cb : Nat) (Oa Ob : Option Addr) (N M : List I3) (A B : Option Addr) (c d : Nat) (ra rb : Int) (w : World) (hN : N.length ≤ 1000000) (hM : M.length ≤ 1000000) (hA : Sl w (.slice A N.length c) 3 N.length (flat encI N)) (hB : Sl w (.slice B M.length d) 3 M.length (flat encI M)) :
    Fun Try.prog 205 [grV (.slice Oa na ca) (.slice A N.length c) ra, grV (.slice Ob nb cb) (.slice B M.length d) rb] w fun v w' => v = .bool (decide (ra = rb ∧ N = M)) ∧ Same w w' := by
  refine fun_of_W (N := 37) Try.func205 ent205 rfl rfl rfl (by simp) ?_
  have H := Hp.start0 w
  refine cut_rule (γ := Nat × Nat) _ rfl (fun (g2, g3) => [(2, .pointer (some ⟨g2, 0, none⟩)), (3, .pointer (some ⟨g3, 0, none⟩))]) (fun (g2, g3) w' => Hp w (fun _ => False) w' [blk g3 148 (grC (.slice Ob nb cb) (.slice B M.length d) rb), blk g2 148 (grC (.slice Oa na ca) (.slice A N.length c) ra)] []) ?_ ?_
  · refine H.box 148 _ (cs := grC (.slice Oa na ca) (.slice A N.length c) ra) rfl ?_
    clear H
    intro g2 w1 H
    refine H.box 148 _ (cs := grC (.slice Ob nb cb) (.slice B M.length d) rb) rfl ?_
    clear H
    intro g3 w2 H
    exact ⟨(g2, g3), ⟨rfl, rfl, trivial⟩, H⟩
  clear H
  rintro ⟨g2, g3⟩ u w1 H
  replace H : Hp _ _ _ _ _ := H
  by_cases hr : ra = rb
  · subst hr
    by_cases hlen : N.length = M.length
    · refine fieldAddr_by (fa148_2 _) ?_
      refine H.load 1 rfl agg3 rfl ?_
      refine fieldAddr_by (fa148_2 _) ?_
      refine H.load 0 rfl agg3 rfl ?_
      refine cond_no (bne_eq_false_iff_eq.2 (by omega)) ?_
      refine fieldAddr_by (fa148_1 _) ?_
      refine cond_no (bne_eq_false_iff_eq.2 (by omega)) ?_
      refine H.load 1 rfl agg146 rfl ?_
      refine cond_no (bne_eq_false_iff_eq.2 (by omega)) ?_
      refine len_sl Try.underlying146 ?_
      refine cond_no (bne_eq_false_iff_eq.2 (by omega)) ?_
      refine fieldAddr_by (fa148_1 _) ?_
      refine cond_no (bne_eq_false_iff_eq.2 (by omega)) ?_
      refine H.load 0 rfl agg146 rfl ?_
      refine cond_no (bne_eq_false_iff_eq.2 (by omega)) ?_
      refine len_sl Try.underlying146 ?_
      iterate 3 refine cond_no (bne_eq_false_iff_eq.2 (by omega)) ?_
      refine cut_rule (γ := Unit) _ rfl (fun _ => []) (fun _ w' => N = M ∧ Hp w (fun _ => False) w' [blk g3 148 (grC (.slice Ob nb cb) (.slice B M.length d) ra), blk g2 148 (grC (.slice Oa na ca) (.slice A N.length c) ra)] []) ?_ ?_
      · refine fieldAddr_by (fa148_1 _) ?_
        refine H.load 1 rfl agg146 rfl ?_
        refine len_sl Try.underlying146 ?_
        refine loop_rule (γ := Nat) _ rfl (fun i => [(24, .int .i64 (i : Int))]) (fun i w' => (i ≤ N.length ∧ N.take i = M.take i) ∧ Hp w (fun _ => False) w' [blk g3 148 (grC (.slice Ob nb cb) (.slice B M.length d) ra), blk g2 148 (grC (.slice Oa na ca) (.slice A N.length c) ra)] []) (fun i => N.length - i) 0 ⟨rfl, trivial⟩ ⟨⟨Nat.zero_le _, rfl⟩, H⟩ ?_
        clear H
        rintro i u w2 ⟨⟨hi, htk⟩, H⟩
        replace H : Hp _ _ _ _ _ := H
        refine cond_dec (fun h7 => ?_) (fun h7 => ?_)
        · have hiN : i < N.length := by omega
          obtain ⟨gA, oA, rfl⟩ := hA.A (by omega)
          obtain ⟨gB, oB, rfl⟩ := hB.A (by omega)
          obtain ⟨x, hx⟩ : ∃ x, N[i]? = some x := ⟨_, List.getElem?_eq_getElem hiN⟩
          obtain ⟨y, hy⟩ : ∃ y, M[i]? = some y := ⟨_, List.getElem?_eq_getElem (by omega)⟩
          refine cut_rule (γ := Unit) _ rfl (fun _ => []) (fun _ w' => (N.take (i + 1) = M.take (i + 1)) ∧ Hp w (fun _ => False) w' [blk g3 148 (grC (.slice Ob nb cb) (.slice (some ⟨gB, oB, none⟩) M.length d) ra), blk g2 148 (grC (.slice Oa na ca) (.slice (some ⟨gA, oA, none⟩) N.length c) ra)] []) ?_ ?_
          · refine cut_rule (γ := Nat) _ rfl (fun g6 => [(6, .pointer (some ⟨g6, 0, none⟩)), (5, .int .i64 (i : Int))]) (fun g6 w' => Hp w (fun _ => False) w' [blk g6 230 (encI x).toArray, blk g3 148 (grC (.slice Ob nb cb) (.slice (some ⟨gB, oB, none⟩) M.length d) ra), blk g2 148 (grC (.slice Oa na ca) (.slice (some ⟨gA, oA, none⟩) N.length c) ra)] []) ?_ ?_
            · refine idxAddr_sl Try.underlying146 size230 i rfl hiN (o' := oA + i * 3) (by omega) ?_
              refine Sl.loadAgg H hA encI_length agg230 size230 i rfl hx ?_
              refine H.alloc 230 zero230 rfl ?_
              clear H
              intro g6 w3 H
              refine H.storeAll 0 rfl size230 rfl (fun v hv => encI_one x v hv) ?_
              clear H
              intro w4 H
              exact ⟨g6, ⟨rfl, rfl, trivial⟩, H⟩
            clear H
            rintro g6 u w3 H
            replace H : Hp _ _ _ _ _ := H
            refine H.draw fol (by kernel_rfl) ?_
            clear H
            intro w4 H
            refine quiet _ (fun w H => H.loadAll 0 rfl agg230 size230 ⟨rfl, rfl⟩) ?_
            refine quiet _ (fun w H => fieldAddr_by (fa148_1 _) ⟨rfl, rfl⟩) ?_
            refine quiet _ (fun w H => H.load 1 rfl agg146 rfl ⟨rfl, rfl⟩) ?_
            refine quiet _ (fun w H => idxAddr_sl Try.underlying146 size230 i rfl (by omega) (o' := oB + i * 3) (by omega) ⟨rfl, rfl⟩) ?_
            refine quiet _ (fun w H => Sl.loadAgg H hB encI_length agg230 size230 i rfl hy ⟨rfl, rfl⟩) ?_
            refine quiet _ (fun w H => bin_neq230 ⟨rfl, rfl⟩) ?_
            by_cases hxy : x = y
            · refine cond_no (decide_eq_false (by simpa using hxy)) ?_
              refine ⟨(), trivial, ?_, H.forget⟩
              rw [List.take_add_one, List.take_add_one, htk, hx, hy, hxy]
            · refine cond_yes (decide_eq_true hxy) ?_
              refine ⟨congrArg Value.bool ?_, H.keeps⟩
              symm
              refine decide_eq_false fun h => hxy ?_
              rw [h.2, hy] at hx
              injection hx with hx
              exact hx.symm
          · clear H
            rintro ⟨⟩ u w3 ⟨h1, H⟩
            exact ⟨i + 1, by show N.length - (i + 1) < N.length - i; omega, ⟨up (by omega), trivial⟩, ⟨by show i + 1 ≤ N.length; omega, h1⟩, H⟩
        · refine ⟨(), trivial, ?_, H⟩
          rw [List.take_of_length_le (by omega), List.take_of_length_le (by omega)] at htk
          exact htk
      clear H
      rintro ⟨⟩ u w2 ⟨hNM, H⟩
      replace H : Hp _ _ _ _ _ := H
      exact ⟨congrArg Value.bool (decide_eq_true ⟨rfl, hNM⟩).symm, H.keeps⟩
    · refine fieldAddr_by (fa148_2 _) ?_
      refine H.load 1 rfl agg3 rfl ?_
      refine fieldAddr_by (fa148_2 _) ?_
      refine H.load 0 rfl agg3 rfl ?_
      refine cond_no (bne_eq_false_iff_eq.2 (by omega)) ?_
      refine fieldAddr_by (fa148_1 _) ?_
      refine cond_no (bne_eq_false_iff_eq.2 (by omega)) ?_
      refine H.load 1 rfl agg146 rfl ?_
      refine cond_no (bne_eq_false_iff_eq.2 (by omega)) ?_
      refine len_sl Try.underlying146 ?_
      refine cond_no (bne_eq_false_iff_eq.2 (by omega)) ?_
      refine fieldAddr_by (fa148_1 _) ?_
      refine cond_no (bne_eq_false_iff_eq.2 (by omega)) ?_
      refine H.load 0 rfl agg146 rfl ?_
      refine cond_no (bne_eq_false_iff_eq.2 (by omega)) ?_
      refine len_sl Try.underlying146 ?_
      iterate 2 refine cond_no (bne_eq_false_iff_eq.2 (by omega)) ?_
      refine cond_yes (bne_iff_ne.2 (by omega)) ?_
      refine ⟨congrArg Value.bool ?_, H.keeps⟩
      exact (decide_eq_false fun h => hlen (by rw [h.2])).symm
  · refine fieldAddr_by (fa148_2 _) ?_
    refine H.load 1 rfl agg3 rfl ?_
    refine fieldAddr_by (fa148_2 _) ?_
    refine H.load 0 rfl agg3 rfl ?_
    iterate 8 refine cond_yes (bne_iff_ne.2 (by omega)) ?_
    refine cond_yes rfl ?_
    refine ⟨congrArg Value.bool ?_, H.keeps⟩
    exact (decide_eq_false fun h => hr h.1).symm
theorem ent204 : enters Try.prog 204 = true := by kernel_rfl
theorem c204 (o : List Int) (N : List I3) (P : List Nd) (Bo A : Option Addr) (co c : Nat) (r : Int) (g1 : Nat) (x : Int) (i : Nat) (hi : i ≤ N.length) (hl : N.length ≤ 1000000) (hP : ndI P = N.take i) (w : World) (hg : (blk g1 148 (grC (.slice Bo o.length co) (.slice A N.length c) r)).ok w) (hA : Sl w (.slice A N.length c) 3 N.length (flat encI N)) :
    Fun Try.prog 204 [.int .i64 x, .int .i64 (i : Int), .pointer (some ⟨g1, 0, none⟩)] w fun v w' => v = .int .i64 (levP o.length P x) ∧ Same w w' := by
  refine fun_of_W (N := 32) Try.func204 ent204 rfl rfl rfl (by simp) ?_
  have H : Hp w (fun _ => False) w [] [blk g1 148 (grC (.slice Bo o.length co) (.slice A N.length c) r)] := Hp.start w _ _ (fun s hs => by rw [List.mem_singleton] at hs; subst hs; exact hg) (fun s hs => by rw [List.mem_singleton] at hs; subst hs; rintro y rfl; exact blk_lt hg)
  have hlen : P.length = i := by have := congrArg List.length hP; simp at this; omega
  unfold levP
  by_cases h0 : x = 0
  · subst h0
    iterate 4 refine cond_yes rfl ?_
    refine fieldAddr_by (fa148_0 _) ?_
    refine ld_blk (H.ro 0 rfl) agg32 rfl ?_
    refine len_sl Try.underlying32 ?_
    exact ⟨rfl, H.keeps⟩
  by_cases h1 : x = 1
  · subst h1
    iterate 3 refine cond_no rfl ?_
    refine cond_yes rfl ?_
    refine fieldAddr_by (fa148_0 _) ?_
    refine ld_blk (H.ro 0 rfl) agg32 rfl ?_
    refine len_sl Try.underlying32 ?_
    exact ⟨rfl, H.keeps⟩
  rw [if_neg (by omega), hlen]
  by_cases h2 : 2 ≤ x
  · have hw2 : IntKind.i64.wrap ((i : Int) + 2) = (i : Int) + 2 := by rw [wrap_i64_in (by omega) (by omega)]
    by_cases h3 : x < i + 2
    · obtain ⟨j, rfl⟩ : ∃ j : Nat, x = (j : Int) + 2 := ⟨(x - 2).toNat, by omega⟩
      have hsub := sub2 (k := j) (by omega)
      have hj : j < N.length := by omega
      rw [if_pos ⟨h2, h3⟩, show ((j : Int) + 2 - 2).toNat = j by omega]
      have hPj : P[j]? = some (P[j]'(by omega)) := List.getElem?_eq_getElem (by omega)
      have hNj : N[j]? = some (i3 (P[j]'(by omega))) := by
        have := congrArg (fun l => l[j]?) hP
        simp only [List.getElem?_map, hPj, List.getElem?_take, if_pos (show j < i by omega), Option.map_some] at this
        exact this.symm
      rw [hPj]
      generalize P[j]'(by omega) = d at hNj ⊢
      obtain ⟨gA, oA, rfl⟩ := hA.A (by omega)
      iterate 4 refine cond_no rfl ?_
      iterate 5 refine cond_yes (decide_eq_true (by assumption)) ?_
      refine cond_yes (decide_eq_true (by omega)) ?_
      refine fieldAddr_by (fa148_1 _) ?_
      refine ld_blk (H.ro 0 rfl) agg146 rfl ?_
      refine idxAddr_sl Try.underlying146 size230 j hsub hj (o' := oA + j * 3) (by omega) ?_
      refine fieldAddr_by (fa230_0 _ _) ?_
      refine H.loadSl (i := j * 3 + 0) hA agg3 _ (by omega) ((flat_cell encI_length hNj 0 (by decide)).trans rfl) ?_
      exact ⟨rfl, H.keeps⟩
    · rw [if_neg (by omega)]
      iterate 4 refine cond_no (beq_eq_false_iff_ne.2 (by assumption)) ?_
      iterate 5 refine cond_yes (decide_eq_true (by assumption)) ?_
      refine cond_no (decide_eq_false (by omega)) ?_
      exact ⟨rfl, H.keeps⟩
  · rw [if_neg (by omega)]
    iterate 4 refine cond_no (beq_eq_false_iff_ne.2 (by assumption)) ?_
    iterate 5 refine cond_no (decide_eq_false (by assumption)) ?_
    refine cond_no rfl ?_
    exact ⟨rfl, H.keeps⟩
end Go.Proofs.Ytjebpngdinbckaa
end

section
/- Graphs: Right. -/
namespace Go.Proofs.Ytjebpngdinbckaa
open Go.Dk
attribute [local irreducible] IntKind.wrap

theorem ndI_take (P : List Nd) (i : Nat) : ndI (P.take i) = (ndI P).take i := by simp
theorem right_step {o : List Int} {N : List I3} {r : Int} {P' P : List Nd} (h : RightG o N r P') {i : Nat} (hP : ndI P = N.take i) {x : I3} (hx : N[i]? = some x) :
    0 ≤ x.1 ∧ x.1 < levP o.length P x.2.1 ∧ x.1 < levP o.length P x.2.2 ∧ x.2.1 ≠ x.2.2 ∧ ∀ d, i3 d = x → findA (arN P) d = none := by
  have hPP : P = P'.take i := by
    apply ndI_inj
    rw [ndI_take, h.nds, hP]
  subst hPP
  rw [← h.nds] at hx
  rw [List.getElem?_map] at hx
  cases hd : P'[i]? with
  | none => rw [hd] at hx; cases hx
  | some d =>
    rw [hd] at hx
    injection hx with hx
    subst hx
    have hl := levP_of h.inv h.topo hd
    have hs : slot (arN P') i = some d := by rw [slot_arN]; exact hd
    refine ⟨Int.natCast_nonneg _, hl.1, hl.2, fun he => h.inv.ne i d hs (Int.ofNat_inj.1 he), fun e he => ?_⟩
    obtain rfl := i3_inj he
    cases hf : findA (arN (P'.take i)) e with
    | none => rfl
    | some j =>
      exfalso
      have h1 := findA_slot hf
      have hlt := slot_lt h1
      rw [arN_length, List.length_take] at hlt
      rw [slot_arN, List.getElem?_take, if_pos (by omega)] at h1
      have := h.inv.inv.uniq j i e (by rw [slot_arN]; exact h1) hs
      omega
theorem ent143 : enters Try.prog 143 = true := by kernel_rfl
theorem c143 (o : List Int) (N : List I3) (Bo A : Option Addr) (co c : Nat) (r : Int) (ho : o.length ≤ 1000) (hl : N.length ≤ 1000) (w : World) (hS : Sl w (.slice Bo o.length co) 1 o.length (intsI o)) (hA : Sl w (.slice A N.length c) 3 N.length (flat encI N)) :
    Fun Try.prog 143 [grV (.slice Bo o.length co) (.slice A N.length c) r] w fun v w' => ∃ b, v = .bool b ∧ (b = true ↔ ∃ P, RightG o N r P) ∧ Same w w' := by
  refine fun_of_W (N := 77) Try.func143 ent143 rfl rfl rfl (by simp) ?_
  have H := Hp.start0 w
  refine cut_rule (γ := Nat) _ rfl (fun g1 => [(1, .pointer (some ⟨g1, 0, none⟩))]) (fun g1 w' => Hp w (fun _ => False) w' [blk g1 148 (grC (.slice Bo o.length co) (.slice A N.length c) r)] []) ?_ ?_
  · refine H.box 148 _ (cs := grC (.slice Bo o.length co) (.slice A N.length c) r) rfl ?_
    clear H
    intro g1 w1 H
    exact ⟨g1, ⟨rfl, trivial⟩, H⟩
  clear H
  rintro g1 u w1 H
  replace H : Hp _ _ _ _ _ := H
  refine cut_rule (γ := Unit) _ rfl (fun _ => []) (fun _ w' => (OrdI o ∧ 0 ≤ r ∧ r < (N.length : Int) + 2) ∧ Hp w (fun _ => False) w' [blk g1 148 (grC (.slice Bo o.length co) (.slice A N.length c) r)] []) ?_ ?_
  · refine fieldAddr_by (fa148_0 _) ?_
    refine H.load 0 rfl agg32 rfl ?_
    refine call_fn (c202 o Bo co _ (by omega) (hS.same H.keeps)) ?_
    rintro _ w2 ⟨rfl, hk⟩
    replace H := H.same hk
    clear hk
    have hw2 : IntKind.i64.wrap ((N.length : Int) + 2) = (N.length : Int) + 2 := by rw [wrap_i64_in (by omega) (by omega)]
    by_cases hord : OrdI o
    · rw [decide_eq_true hord]
      by_cases h0 : r < 0
      · refine cond_no rfl ?_
        refine fieldAddr_by (fa148_2 _) ?_
        refine cond_no rfl ?_
        refine H.load 0 rfl agg3 rfl ?_
        iterate 2 refine cond_no rfl ?_
        iterate 8 refine cond_yes (decide_eq_true (by assumption)) ?_
        refine cond_yes rfl ?_
        exact ⟨false, rfl, ⟨fun h => Bool.noConfusion h, fun ⟨P, h⟩ => absurd h.root0 (by omega)⟩, H.keeps⟩
      · by_cases h1 : (N.length : Int) + 2 ≤ r
        · refine cond_no rfl ?_
          refine fieldAddr_by (fa148_2 _) ?_
          refine cond_no rfl ?_
          refine H.load 0 rfl agg3 rfl ?_
          iterate 2 refine cond_no rfl ?_
          refine cond_no (decide_eq_false (by assumption)) ?_
          refine fieldAddr_by (fa148_2 _) ?_
          refine cond_no (decide_eq_false (by assumption)) ?_
          refine H.load 0 rfl agg3 rfl ?_
          refine cond_no (decide_eq_false (by assumption)) ?_
          refine fieldAddr_by (fa148_1 _) ?_
          refine cond_no (decide_eq_false (by assumption)) ?_
          refine H.load 0 rfl agg146 rfl ?_
          refine cond_no (decide_eq_false (by assumption)) ?_
          refine len_sl Try.underlying146 ?_
          iterate 3 refine cond_no (decide_eq_false (by assumption)) ?_
          refine cond_yes (decide_eq_true (by omega)) ?_
          exact ⟨false, rfl, ⟨fun h => Bool.noConfusion h, fun ⟨P, h⟩ => by have h2 := h.root1; have e := congrArg List.length h.nds; rw [List.length_map] at e; omega⟩, H.keeps⟩
        · refine cond_no rfl ?_
          refine fieldAddr_by (fa148_2 _) ?_
          refine cond_no rfl ?_
          refine H.load 0 rfl agg3 rfl ?_
          iterate 2 refine cond_no rfl ?_
          refine cond_no (decide_eq_false (by assumption)) ?_
          refine fieldAddr_by (fa148_2 _) ?_
          refine cond_no (decide_eq_false (by assumption)) ?_
          refine H.load 0 rfl agg3 rfl ?_
          refine cond_no (decide_eq_false (by assumption)) ?_
          refine fieldAddr_by (fa148_1 _) ?_
          refine cond_no (decide_eq_false (by assumption)) ?_
          refine H.load 0 rfl agg146 rfl ?_
          refine cond_no (decide_eq_false (by assumption)) ?_
          refine len_sl Try.underlying146 ?_
          iterate 3 refine cond_no (decide_eq_false (by assumption)) ?_
          refine cond_no (decide_eq_false (by omega)) ?_
          exact ⟨(), trivial, ⟨hord, by omega, by omega⟩, H⟩
    · rw [decide_eq_false hord]
      iterate 13 refine cond_yes rfl ?_
      exact ⟨false, rfl, ⟨fun h => Bool.noConfusion h, fun ⟨P, h⟩ => absurd h.ord hord⟩, H.keeps⟩
  clear H
  rintro ⟨⟩ u w2 ⟨⟨hord, hr0, hr1⟩, H⟩
  replace H : Hp _ _ _ _ _ := H
  refine cut_rule (γ := Unit) _ rfl (fun _ => [(3, .func (.func 204) #[] #[.pointer (some ⟨g1, 0, none⟩)])]) (fun _ w' => Hp w (fun _ => False) w' [blk g1 148 (grC (.slice Bo o.length co) (.slice A N.length c) r)] []) ?_ ?_
  · refine mkCl2 ?_
    exact ⟨(), ⟨rfl, trivial⟩, H⟩
  clear H
  rintro ⟨⟩ u w3 H
  replace H : Hp _ _ _ _ _ := H
  refine cut_rule (γ := Nat × Nat) _ rfl (fun (g4, r4) => [(4, .pointer (some ⟨g4, 0, none⟩))]) (fun (g4, r4) w' => Hp w (fun _ => False) w' [mkR g4 r4 (.slice none 0 0) [], blk g1 148 (grC (.slice Bo o.length co) (.slice A N.length c) r)] []) ?_ ?_
  · refine H.makeMap kaN vbN ?_
    clear H
    intro r4 w4 H
    refine build239 ?_
    refine H.box 239 _ (cs := mkC (.slice none 0 0) r4) rfl ?_
    clear H
    intro g4 w5 H
    have H := H.ownNil 230 3
    have H : Hp w (fun _ => False) w5 (mapR kaN vbN r4 [] :: blk g4 239 (mkC (.slice none 0 0) r4) :: own 230 3 (.slice none 0 0) 0 [] :: blk g1 148 (grC (.slice Bo o.length co) (.slice A N.length c) r) :: []) [] := H.sel [2, 1, 0, 3] (by decide) rfl
    exact ⟨(g4, r4), ⟨rfl, trivial⟩, mkClose (N := []) (l := []) ids_nil H⟩
  clear H
  rintro ⟨g4, r4⟩ u w4 H
  replace H : Hp _ _ _ _ _ := H
  refine cut_rule (γ := List Nd × Value) _ rfl (fun _ => []) (fun (P, sv) w' => (ndI P = N ∧ BInv o.length (arN P) ∧ Topo P) ∧ Hp w (fun _ => False) w' [mkR g4 r4 sv P, blk g1 148 (grC (.slice Bo o.length co) (.slice A N.length c) r)] []) ?_ ?_
  · refine fieldAddr_by (fa148_1 _) ?_
    refine H.load 1 rfl agg146 rfl ?_
    refine len_sl Try.underlying146 ?_
    refine loop_rule (γ := Nat × List Nd × Value) _ rfl (fun (i, _) => [(32, .int .i64 (i : Int))]) (fun (i, P, sv) w' => (i ≤ N.length ∧ ndI P = N.take i ∧ BInv o.length (arN P) ∧ Topo P) ∧ Hp w (fun _ => False) w' [mkR g4 r4 sv P, blk g1 148 (grC (.slice Bo o.length co) (.slice A N.length c) r)] []) (fun (i, _) => N.length - i) (0, [], .slice none 0 0) ⟨rfl, trivial⟩ ⟨⟨Nat.zero_le _, rfl, BInv.nil _, Topo.nil⟩, H⟩ ?_
    clear H
    rintro ⟨i, P, sv⟩ u w5 ⟨⟨hi, hP, hinv, htopo⟩, H⟩
    replace H : Hp _ _ _ _ _ := H
    refine cond_dec (fun h7 => ?_) (fun h7 => ?_)
    · have hiN : i < N.length := by omega
      obtain ⟨x, hx⟩ : ∃ x, N[i]? = some x := ⟨_, List.getElem?_eq_getElem hiN⟩
      obtain ⟨gA, oA, rfl⟩ := hA.A (by omega)
      have hPl : P.length = i := by have := congrArg List.length hP; simp at this; omega
      have hk : o.length ≤ 23 := by have := hord.le; omega
      refine cut_rule (γ := List Nd × Value) _ rfl (fun _ => []) (fun (P, sv) w' => (ndI P = N.take (i + 1) ∧ BInv o.length (arN P) ∧ Topo P) ∧ Hp w (fun _ => False) w' [mkR g4 r4 sv P, blk g1 148 (grC (.slice Bo o.length co) (.slice (some ⟨gA, oA, none⟩) N.length c) r)] []) ?_ ?_
      · refine cut_rule (γ := Nat) _ rfl (fun g6 => [(6, .pointer (some ⟨g6, 0, none⟩)), (5, .int .i64 (i : Int))]) (fun g6 w' => Hp w (fun _ => False) w' [mkR g4 r4 sv P, blk g6 230 (k3c x.1 x.2.1 x.2.2), blk g1 148 (grC (.slice Bo o.length co) (.slice (some ⟨gA, oA, none⟩) N.length c) r)] []) ?_ ?_
        · refine idxAddr_sl Try.underlying146 size230 i rfl hiN (o' := oA + i * 3) (by omega) ?_
          refine Sl.loadAgg H hA encI_length agg230 size230 i rfl hx ?_
          refine H.alloc 230 zero230 rfl ?_
          clear H
          intro g6 w3 H
          refine H.storeAll 0 rfl size230 rfl (fun v hv => encI_one x v hv) ?_
          clear H
          intro w4 H
          exact ⟨g6, ⟨rfl, rfl, trivial⟩, H.front 1 rfl⟩
        clear H
        rintro g6 u w6 H
        replace H : Hp _ _ _ _ _ := H
        have hno := fun P' (h : RightG o N r P') => right_step h hP hx
        refine H.drawC [blk g6 230 (k3c x.1 x.2.1 x.2.2), blk g1 148 (grC (.slice Bo o.length co) (.slice (some ⟨gA, oA, none⟩) N.length c) r)] (fun u H => H.forget) fol (by kernel_rfl) ?_
        clear H
        intro w7 H
        by_cases c0 : x.1 < 0
        · refine quiet _ (fun w H => fieldAddr_by (fa230_0 _ _) ⟨rfl, rfl⟩) ?_
          refine quiet _ (fun w H => H.load 0 rfl agg3 rfl ⟨rfl, rfl⟩) ?_
          iterate 9 refine cond_yes (decide_eq_true (by assumption)) ?_
          iterate 17 refine cond_yes rfl ?_
          exact ⟨false, rfl, ⟨fun h => Bool.noConfusion h, fun ⟨P', h⟩ => absurd (hno P' h).1 (by omega)⟩, H.keeps⟩
        · have hc1 := fun w hg => c204 o N P Bo (some ⟨gA, oA, none⟩) co c r g1 x.2.1 i hi (by omega) hP w hg
          by_cases c1 : levP o.length P x.2.1 ≤ x.1
          · refine quiet _ (fun w H => fieldAddr_by (fa230_0 _ _) ⟨rfl, rfl⟩) ?_
            refine quiet _ (fun w H => H.load 0 rfl agg3 rfl ⟨rfl, rfl⟩) ?_
            iterate 2 refine cond_no (decide_eq_false (by assumption)) ?_
            refine quiet _ (fun w H => fieldAddr_by (fa230_1 _ _) ⟨rfl, rfl⟩) ?_
            refine cond_no (decide_eq_false (by assumption)) ?_
            refine quiet _ (fun w H => H.load 0 rfl agg3 rfl ⟨rfl, rfl⟩) ?_
            iterate 2 refine cond_no (decide_eq_false (by assumption)) ?_
            refine call_fnG (c204 o N P Bo _ co c r g1 x.2.1 i hi (by omega) hP _ (H.get 2 rfl) (hA.same H.keeps)) ?_
            rintro _ w8 ⟨rfl, hk⟩
            replace H := H.same hk
            clear hk
            refine ⟨.inl H.forget, ?_⟩
            refine cond_no (decide_eq_false (by assumption)) ?_
            refine quiet _ (fun w H => fieldAddr_by (fa230_0 _ _) ⟨rfl, rfl⟩) ?_
            refine cond_no (decide_eq_false (by assumption)) ?_
            refine quiet _ (fun w H => H.load 0 rfl agg3 rfl ⟨rfl, rfl⟩) ?_
            iterate 2 refine cond_no (decide_eq_false (by assumption)) ?_
            iterate 9 refine cond_yes (decide_eq_true (by assumption)) ?_
            iterate 8 refine cond_yes rfl ?_
            exact ⟨false, rfl, ⟨fun h => Bool.noConfusion h, fun ⟨P', h⟩ => absurd (hno P' h).2.1 (by omega)⟩, H.keeps⟩
          · by_cases c2 : levP o.length P x.2.2 ≤ x.1
            · refine quiet _ (fun w H => fieldAddr_by (fa230_0 _ _) ⟨rfl, rfl⟩) ?_
              refine quiet _ (fun w H => H.load 0 rfl agg3 rfl ⟨rfl, rfl⟩) ?_
              iterate 2 refine cond_no (decide_eq_false (by assumption)) ?_
              refine quiet _ (fun w H => fieldAddr_by (fa230_1 _ _) ⟨rfl, rfl⟩) ?_
              refine cond_no (decide_eq_false (by assumption)) ?_
              refine quiet _ (fun w H => H.load 0 rfl agg3 rfl ⟨rfl, rfl⟩) ?_
              iterate 2 refine cond_no (decide_eq_false (by assumption)) ?_
              refine call_fnG (c204 o N P Bo _ co c r g1 x.2.1 i hi (by omega) hP _ (H.get 2 rfl) (hA.same H.keeps)) ?_
              rintro _ w8 ⟨rfl, hk⟩
              replace H := H.same hk
              clear hk
              refine ⟨.inl H.forget, ?_⟩
              refine cond_no (decide_eq_false (by assumption)) ?_
              refine quiet _ (fun w H => fieldAddr_by (fa230_0 _ _) ⟨rfl, rfl⟩) ?_
              refine cond_no (decide_eq_false (by assumption)) ?_
              refine quiet _ (fun w H => H.load 0 rfl agg3 rfl ⟨rfl, rfl⟩) ?_
              iterate 4 refine cond_no (decide_eq_false (by assumption)) ?_
              refine quiet _ (fun w H => fieldAddr_by (fa230_2 _ _) ⟨rfl, rfl⟩) ?_
              refine cond_no (decide_eq_false (by assumption)) ?_
              refine quiet _ (fun w H => H.load 0 rfl agg3 rfl ⟨rfl, rfl⟩) ?_
              iterate 2 refine cond_no (decide_eq_false (by assumption)) ?_
              refine call_fnG (c204 o N P Bo _ co c r g1 x.2.2 i hi (by omega) hP _ (H.get 2 rfl) (hA.same H.keeps)) ?_
              rintro _ w9 ⟨rfl, hk⟩
              replace H := H.same hk
              clear hk
              refine ⟨.inl H.forget, ?_⟩
              refine cond_no (decide_eq_false (by assumption)) ?_
              refine quiet _ (fun w H => fieldAddr_by (fa230_0 _ _) ⟨rfl, rfl⟩) ?_
              refine cond_no (decide_eq_false (by assumption)) ?_
              refine quiet _ (fun w H => H.load 0 rfl agg3 rfl ⟨rfl, rfl⟩) ?_
              iterate 2 refine cond_no (decide_eq_false (by assumption)) ?_
              iterate 7 refine cond_yes (decide_eq_true (by assumption)) ?_
              refine cond_yes rfl ?_
              exact ⟨false, rfl, ⟨fun h => Bool.noConfusion h, fun ⟨P', h⟩ => absurd (hno P' h).2.2.1 (by omega)⟩, H.keeps⟩
            · refine quiet _ (fun w H => fieldAddr_by (fa230_0 _ _) ⟨rfl, rfl⟩) ?_
              refine quiet _ (fun w H => H.load 0 rfl agg3 rfl ⟨rfl, rfl⟩) ?_
              iterate 2 refine cond_no (decide_eq_false (by assumption)) ?_
              refine quiet _ (fun w H => fieldAddr_by (fa230_1 _ _) ⟨rfl, rfl⟩) ?_
              refine cond_no (decide_eq_false (by assumption)) ?_
              refine quiet _ (fun w H => H.load 0 rfl agg3 rfl ⟨rfl, rfl⟩) ?_
              iterate 2 refine cond_no (decide_eq_false (by assumption)) ?_
              refine call_fnG (c204 o N P Bo _ co c r g1 x.2.1 i hi (by omega) hP _ (H.get 2 rfl) (hA.same H.keeps)) ?_
              rintro _ w8 ⟨rfl, hk⟩
              replace H := H.same hk
              clear hk
              refine ⟨.inl H.forget, ?_⟩
              refine cond_no (decide_eq_false (by assumption)) ?_
              refine quiet _ (fun w H => fieldAddr_by (fa230_0 _ _) ⟨rfl, rfl⟩) ?_
              refine cond_no (decide_eq_false (by assumption)) ?_
              refine quiet _ (fun w H => H.load 0 rfl agg3 rfl ⟨rfl, rfl⟩) ?_
              iterate 4 refine cond_no (decide_eq_false (by assumption)) ?_
              refine quiet _ (fun w H => fieldAddr_by (fa230_2 _ _) ⟨rfl, rfl⟩) ?_
              refine cond_no (decide_eq_false (by assumption)) ?_
              refine quiet _ (fun w H => H.load 0 rfl agg3 rfl ⟨rfl, rfl⟩) ?_
              iterate 2 refine cond_no (decide_eq_false (by assumption)) ?_
              refine call_fnG (c204 o N P Bo _ co c r g1 x.2.2 i hi (by omega) hP _ (H.get 2 rfl) (hA.same H.keeps)) ?_
              rintro _ w9 ⟨rfl, hk⟩
              replace H := H.same hk
              clear hk
              refine ⟨.inl H.forget, ?_⟩
              refine cond_no (decide_eq_false (by assumption)) ?_
              refine quiet _ (fun w H => fieldAddr_by (fa230_0 _ _) ⟨rfl, rfl⟩) ?_
              refine cond_no (decide_eq_false (by assumption)) ?_
              refine quiet _ (fun w H => H.load 0 rfl agg3 rfl ⟨rfl, rfl⟩) ?_
              iterate 4 refine cond_no (decide_eq_false (by assumption)) ?_
              refine quiet _ (fun w H => H.loadAll 0 rfl agg230 size230 ⟨rfl, rfl⟩) ?_
              refine cond_no (decide_eq_false (by assumption)) ?_
              have hi1 := levP_id (show 0 ≤ levP o.length P x.2.1 by omega)
              have hi2 := levP_id (show 0 ≤ levP o.length P x.2.2 by omega)
              have hw2 : IntKind.i64.wrap ((i : Int) + 2) = ((i + 2 : Nat) : Int) := add2 (by omega)
              obtain ⟨d, rfl⟩ : ∃ d : Nd, i3 d = x := by
                obtain ⟨x1, x2, x3⟩ := x
                refine ⟨⟨x1.toNat, x2.toNat, x3.toNat⟩, ?_⟩
                show ((x1.toNat : Int), (x2.toNat : Int), (x3.toNat : Int)) = (x1, x2, x3)
                have e1 : (x1.toNat : Int) = x1 := Int.toNat_of_nonneg (by omega)
                have e2 : (x2.toNat : Int) = x2 := Int.toNat_of_nonneg hi1.1
                have e3 : (x3.toNat : Int) = x3 := Int.toNat_of_nonneg hi2.1
                rw [e1, e2, e3]
              have hc := c200 (g := g4) (r := r4) (sv := sv) (N := P) d.l d.lo d.hi hinv.inv.uniq (by omega) _ (H.get 0 rfl)
              have hv1 : d.lo < P.length + 2 := by have := hi1.2; show _; exact Int.ofNat_lt.1 this
              have hv2 : d.hi < P.length + 2 := by have := hi2.2; show _; exact Int.ofNat_lt.1 this
              by_cases he : d.lo = d.hi
              · have hn : nodeN P d.l d.lo d.hi = (P, (d.lo : Int)) := by unfold nodeN; rw [if_pos (by rw [he])]
                rw [hn] at hc
                refine call_fn hc ?_
                rintro _ w10 ⟨sv', rfl, ht⟩
                replace H := H.turnBy 0 rfl ht
                refine ⟨.inl H.forget, ?_⟩
                iterate 4 refine cond_no (decide_eq_false (by assumption)) ?_
                refine cond_yes (bne_iff_ne.2 (by omega)) ?_
                exact ⟨false, rfl, ⟨fun h => Bool.noConfusion h, fun ⟨P', h⟩ => absurd (show (i3 d).2.1 = (i3 d).2.2 by show (d.lo : Int) = d.hi; rw [he]) (hno P' h).2.2.2.1⟩, H.keeps⟩
              · have hne : ¬ (d.lo : Int) = d.hi := by omega
                cases hf : findA (arN P) d with
                | some j =>
                  have hj := slot_lt (findA_slot hf)
                  rw [arN_length] at hj
                  have hn : nodeN P d.l d.lo d.hi = (P, ((j + 2 : Nat) : Int)) := by unfold nodeN; rw [if_neg hne, Int.toNat_natCast, Int.toNat_natCast, hf]
                  rw [hn] at hc
                  refine call_fn hc ?_
                  rintro _ w10 ⟨sv', rfl, ht⟩
                  replace H := H.turnBy 0 rfl ht
                  refine ⟨.inl H.forget, ?_⟩
                  iterate 4 refine cond_no (decide_eq_false (by assumption)) ?_
                  refine cond_yes (bne_iff_ne.2 (by omega)) ?_
                  exact ⟨false, rfl, ⟨fun h => Bool.noConfusion h, fun ⟨P', h⟩ => by have := (hno P' h).2.2.2.2 d rfl; rw [hf] at this; cases this⟩, H.keeps⟩
                | none =>
                  have hn : nodeN P d.l d.lo d.hi = (P ++ [d], ((i + 2 : Nat) : Int)) := by unfold nodeN; rw [if_neg hne, Int.toNat_natCast, Int.toNat_natCast, hf, hPl]
                  rw [hn] at hc
                  refine call_fn hc ?_
                  rintro _ w10 ⟨sv', rfl, ht⟩
                  replace H := H.turnBy 0 rfl ht
                  refine ⟨.inl H.forget, ?_⟩
                  iterate 4 refine cond_no (decide_eq_false (by assumption)) ?_
                  refine cond_no (bne_eq_false_iff_eq.2 (by omega)) ?_
                  refine ⟨(P ++ [d], sv'), trivial, ⟨?_, binv_snoc hk hinv hf (by show (i3 d).1 < levP o.length P (i3 d).2.1; omega) (by show (i3 d).1 < levP o.length P (i3 d).2.2; omega) he, topo_snoc (k := o.length) htopo (by show (i3 d).1 < levP o.length P (i3 d).2.1; omega) (by show (i3 d).1 < levP o.length P (i3 d).2.2; omega)⟩, H.sel [0, 2] (by decide) rfl⟩
                  show ndI (P ++ [d]) = N.take (i + 1)
                  rw [show ndI (P ++ [d]) = ndI P ++ [i3 d] from List.map_append, hP, List.take_add_one, hx]; rfl
      · clear H
        rintro ⟨P', sv'⟩ u w6 ⟨⟨h1, h2, h3⟩, H⟩
        exact ⟨(i + 1, P', sv'), by show N.length - (i + 1) < N.length - i; omega, ⟨up (by omega), trivial⟩, ⟨by show i + 1 ≤ N.length; omega, h1, h2, h3⟩, H⟩
    · rw [List.take_of_length_le (by omega)] at hP
      exact ⟨(P, sv), trivial, ⟨hP, hinv, htopo⟩, H⟩
  clear H
  rintro ⟨P, sv⟩ u w5 ⟨⟨hP, hinv, htopo⟩, H⟩
  replace H : Hp _ _ _ _ _ := H
  refine H.draw fol (by kernel_rfl) ?_
  clear H
  intro w6 H
  refine quiet _ (fun w H => fieldAddr_by (fa148_0 _) ⟨rfl, rfl⟩) ?_
  refine quiet _ (fun w H => H.load 1 rfl agg32 rfl ⟨rfl, rfl⟩) ?_
  refine quiet _ (fun w H => fieldAddr_by (fa148_2 _) ⟨rfl, rfl⟩) ?_
  refine quiet _ (fun w H => H.load 1 rfl agg3 rfl ⟨rfl, rfl⟩) ?_
  have hthere := there_of hr0 (show r < P.length + 2 by have e := congrArg List.length hP; rw [List.length_map] at e; omega)
  have hk : o.length ≤ 23 := by have := hord.le; omega
  have hPl : P.length = N.length := by have e := congrArg List.length hP; rw [List.length_map] at e; exact e
  refine call_fn (c201 hk hinv (by omega) g4 r4 sv o Bo co (by omega) r hthere _ (H.get 0 rfl) (hS.same H.keeps)) ?_
  rintro _ w8 ⟨vo, vn, rfl, hn⟩
  replace H := H.addNew hn
  refine ⟨.inl H.forget, ?_⟩
  refine quiet _ (fun w H => H.loadAll 1 rfl agg148 size148 ⟨rfl, rfl⟩) ?_
  have H := H.split
  have hlO := rd_len (read_bld hk hinv 26 r _ (by omega) hthere (rd_start _ _)).1
  have hlO : (rd0 P r).1.1.length ≤ P.length := hlO
  obtain ⟨Bo', co', rfl, _⟩ := own_form (H.get 0 rfl)
  obtain ⟨Bn, cn, rfl, _⟩ := own_form (H.get 1 rfl)
  have hS2 := own_Sl (H.get 1 rfl)
  have hc := fun w h => c205 o.length o.length co' co Bo' Bo (ndI (rd0 P r).1.1) N Bn A cn c (rd0 P r).2 r w (by rw [List.length_map]; omega) (by omega) h
  rw [List.length_map] at hc
  refine call_fn (hc _ hS2 (hA.same H.keeps)) ?_
  rintro _ w9 ⟨rfl, hk9⟩
  replace H := H.same hk9
  refine ⟨.inl (H.sel [2, 3] (by decide) rfl), ?_⟩
  refine ⟨_, rfl, ?_, H.keeps⟩
  rw [decide_eq_true_eq]
  constructor
  · rintro ⟨h1, h2⟩
    exact ⟨P, hord, hP, hinv, htopo, hr0, by omega, ndI_inj (h2.trans hP.symm), h1⟩
  · rintro ⟨P', h⟩
    obtain rfl : P' = P := ndI_inj (h.nds.trans hP.symm)
    exact ⟨h.read.2, by rw [h.read.1]; exact hP⟩
end Go.Proofs.Ytjebpngdinbckaa
end

section
/- Graphs: Set. -/
namespace Go.Proofs.Ytjebpngdinbckaa
open Go.Dk
attribute [local irreducible] IntKind.wrap

def setTo (o : List Nat) (F : Dk.Fn) (k : Nat) : Nat := setOf fun q => decide (q < k) && F (asgP o q)
theorem setTo_lt (o : List Nat) (F : Dk.Fn) (k : Nat) : setTo o F k < 2 ^ 256 := setOf_lt _
theorem setTo_zero (o : List Nat) (F : Dk.Fn) : setTo o F 0 = 0 := by
  refine set_ext (setOf_lt _) (by decide) fun q hq => ?_
  unfold setTo
  rw [testBit_setOf, Nat.zero_testBit]; simp
theorem setTo_yes {o : List Nat} {F : Dk.Fn} {k : Nat} (hk : k < 256) (h : F (asgP o k) = true) : setTo o F k ||| 2 ^ k = setTo o F (k + 1) := by
  have h2 : 2 ^ k < 2 ^ 256 := Nat.pow_lt_pow_right (by decide) hk
  refine set_ext (Nat.or_lt_two_pow (setOf_lt _) h2) (setOf_lt _) fun q hq => ?_
  unfold setTo
  rw [Nat.testBit_or, testBit_setOf, testBit_setOf, Nat.testBit_two_pow]
  by_cases hqk : k = q
  · subst hqk
    rw [decide_eq_true rfl, h, decide_eq_true (show k < k + 1 by omega), decide_eq_true hq]; simp
  · have e : (q < k) ↔ (q < k + 1) := by omega
    simp [hqk, e]
theorem setTo_no {o : List Nat} {F : Dk.Fn} {k : Nat} (h : F (asgP o k) = false) : setTo o F k = setTo o F (k + 1) := by
  refine set_ext (setOf_lt _) (setOf_lt _) fun q hq => ?_
  unfold setTo
  rw [testBit_setOf, testBit_setOf]
  by_cases hqk : q = k
  · subst hqk; rw [h]; simp
  · have e : (q < k) ↔ (q < k + 1) := by omega
    simp [e]
theorem ord_at {o : List Int} (h : OrdI o) {l : Nat} (hl : l < o.length) : o[l]? = some (((natsI o).getD l 0 : Nat) : Int) ∧ (natsI o).getD l 0 < o.length := by
  have hx : o[l]? = some o[l] := List.getElem?_eq_getElem hl
  have h1 := natsI_get hx
  have h2 := h.nats.get_lt (k := l) (by rw [natsI_length]; exact hl)
  rw [natsI_length] at h2
  have h3 := (h.rng _ (List.mem_of_getElem? hx)).1
  refine ⟨?_, h2⟩
  rw [h1, hx]
  congr 1
  omega
theorem ent142 : enters Try.prog 142 = true := by kernel_rfl
theorem c142 (o : List Int) (N : List I3) (Bo A : Option Addr) (co c : Nat) (r : Int) (ho : o.length ≤ 1000) (hl : N.length ≤ 1000) (w : World) (hS : Sl w (.slice Bo o.length co) 1 o.length (intsI o)) (hA : Sl w (.slice A N.length c) 3 N.length (flat encI N)) :
    Fun Try.prog 142 [grV (.slice Bo o.length co) (.slice A N.length c) r] w fun v w' => ((¬ (∃ P, RightG o N r P) ∧ v = .tuple #[sv 0, .int .i64 1]) ∨ ∃ P, RightG o N r P ∧ v = .tuple #[sv (setD (natsI o) (arN P) r), .int .i64 0]) ∧ Same w w' := by
  refine fun_of_W (N := 50) Try.func142 ent142 rfl rfl rfl (by simp) ?_
  have H := Hp.start0 w
  refine cut_rule (γ := Nat × Nat) _ rfl (fun (g1, g2) => [(1, .pointer (some ⟨g1, 0, none⟩)), (2, .pointer (some ⟨g2, 0, none⟩)), (3, .int .i64 0)]) (fun (g1, g2) w' => Hp w (fun _ => False) w' [blk g2 24 (sc 0), blk g1 148 (grC (.slice Bo o.length co) (.slice A N.length c) r)] []) ?_ ?_
  · refine H.box 148 _ (cs := grC (.slice Bo o.length co) (.slice A N.length c) r) rfl ?_
    clear H
    intro g1 w1 H
    refine H.alloc 24 (cs := sc 0) zero24 sc_zero ?_
    clear H
    intro g2 w2 H
    exact ⟨(g1, g2), ⟨rfl, rfl, rfl, trivial⟩, H⟩
  clear H
  rintro ⟨g1, g2⟩ u w1 H
  replace H : Hp _ _ _ _ _ := H
  refine cut_rule (γ := Unit) _ rfl (fun _ => []) (fun _ w' => (∃ P, RightG o N r P) ∧ Hp w (fun _ => False) w' [blk g2 24 (sc 0), blk g1 148 (grC (.slice Bo o.length co) (.slice A N.length c) r)] []) ?_ ?_
  · refine H.loadAll 1 rfl agg148 size148 ?_
    refine call_fn (c143 o N Bo A co c r ho hl _ (hS.same H.keeps) (hA.same H.keeps)) ?_
    rintro _ w2 ⟨b, rfl, hb, hk⟩
    replace H := H.same hk
    clear hk
    cases b with
    | false =>
      have hno : ¬ ∃ P, RightG o N r P := fun h => Bool.noConfusion (hb.2 h)
      refine cond_yes rfl ?_
      refine build24z ?_
      refine H.storeSet 0 rfl ?_
      clear H
      intro w5 H
      refine H.loadAll 0 rfl agg24 size24 ?_
      refine ⟨rfl, ?_⟩
      exact ⟨.inl ⟨hno, rfl⟩, H.keeps⟩
    | true =>
      have hyes := hb.1 rfl
      refine cond_no rfl ?_
      exact ⟨(), trivial, hyes, H⟩
  clear H
  rintro ⟨⟩ u w2 ⟨⟨P, hg⟩, H⟩
  replace H : Hp _ _ _ _ _ := H
  have hord := hg.ord
  have ho8 := hord.le
  have hnds := hg.nds
  have h256 := pow_le_256 ho8
  refine cut_rule (γ := Nat) _ rfl (fun g4 => [(4, .pointer (some ⟨g4, 0, none⟩))]) (fun g4 w' => Hp w (fun _ => False) w' [blk g4 24 (sc 0), blk g2 24 (sc 0), blk g1 148 (grC (.slice Bo o.length co) (.slice A N.length c) r)] []) ?_ ?_
  · refine H.alloc 24 (cs := sc 0) zero24 sc_zero ?_
    clear H
    intro g4 w3 H
    exact ⟨g4, ⟨rfl, trivial⟩, H⟩
  clear H
  rintro g4 u w3 H
  replace H : Hp _ _ _ _ _ := H
  refine cut_rule (γ := Unit) _ rfl (fun _ => []) (fun _ w' => Hp w (fun _ => False) w' [blk g4 24 (sc (setTo (natsI o) (sem (arN P) r) (2 ^ o.length))), blk g2 24 (sc 0), blk g1 148 (grC (.slice Bo o.length co) (.slice A N.length c) r)] []) ?_ ?_
  · refine fieldAddr_by (fa148_0 _) ?_
    refine H.load 2 rfl agg32 rfl ?_
    refine len_sl Try.underlying32 ?_
    refine bin_one_shl_i64 (by omega) ?_
    refine loop_rule (γ := Nat) _ rfl (fun p => [(16, .int .i64 (p : Int))]) (fun p w' => p ≤ 2 ^ o.length ∧ Hp w (fun _ => False) w' [blk g4 24 (sc (setTo (natsI o) (sem (arN P) r) p)), blk g2 24 (sc 0), blk g1 148 (grC (.slice Bo o.length co) (.slice A N.length c) r)] []) (fun p => 2 ^ o.length - p) 0 ⟨rfl, trivial⟩ ⟨Nat.zero_le _, by rw [setTo_zero]; exact H⟩ ?_
    clear H
    rintro p u w4 ⟨hp, H⟩
    replace H : Hp _ _ _ _ _ := H
    refine cond_dec (fun h7 => ?_) (fun h7 => ?_)
    · have hpl : p < 2 ^ o.length := by exact_mod_cast h7
      refine cut_rule (γ := Unit) _ rfl (fun _ => []) (fun _ w' => Hp w (fun _ => False) w' [blk g4 24 (sc (setTo (natsI o) (sem (arN P) r) (p + 1))), blk g2 24 (sc 0), blk g1 148 (grC (.slice Bo o.length co) (.slice A N.length c) r)] []) ?_ ?_
      · refine cut_rule (γ := Unit) _ rfl (fun _ => [(5, .int .i64 (p : Int))]) (fun _ w' => Hp w (fun _ => False) w' [blk g4 24 (sc (setTo (natsI o) (sem (arN P) r) p)), blk g2 24 (sc 0), blk g1 148 (grC (.slice Bo o.length co) (.slice A N.length c) r)] []) ⟨(), ⟨rfl, trivial⟩, H⟩ ?_
        clear H
        rintro ⟨⟩ u w5 H
        replace H : Hp _ _ _ _ _ := H
        refine cut_rule (γ := Unit) _ rfl (fun _ => [(6, .int .i64 r)]) (fun _ w' => Hp w (fun _ => False) w' [blk g4 24 (sc (setTo (natsI o) (sem (arN P) r) p)), blk g2 24 (sc 0), blk g1 148 (grC (.slice Bo o.length co) (.slice A N.length c) r)] []) ?_ ?_
        · refine fieldAddr_by (fa148_2 _) ?_
          refine H.load 2 rfl agg3 rfl ?_
          exact ⟨(), ⟨rfl, trivial⟩, H⟩
        clear H
        rintro ⟨⟩ u w6 H
        replace H : Hp _ _ _ _ _ := H
        refine cut_rule (γ := Int) _ rfl (fun id => [(6, .int .i64 id)]) (fun id w' => ((id = 0 ∨ id = 1) ∧ decide (id = 1) = sem (arN P) r (asgP (natsI o) p)) ∧ Hp w (fun _ => False) w' [blk g4 24 (sc (setTo (natsI o) (sem (arN P) r) p)), blk g2 24 (sc 0), blk g1 148 (grC (.slice Bo o.length co) (.slice A N.length c) r)] []) ?_ ?_
        · skip
          refine loop_rule (γ := Int) _ rfl (fun id => [(6, .int .i64 id)]) (fun id w' => (0 ≤ lvlA (arN P) id ∧ sem (arN P) id (asgP (natsI o) p) = sem (arN P) r (asgP (natsI o) p)) ∧ Hp w (fun _ => False) w' [blk g4 24 (sc (setTo (natsI o) (sem (arN P) r) p)), blk g2 24 (sc 0), blk g1 148 (grC (.slice Bo o.length co) (.slice A N.length c) r)] []) (fun id => id.toNat) r ⟨rfl, trivial⟩ ⟨⟨hg.there, rfl⟩, H⟩ ?_
          clear H
          rintro id u w6 ⟨⟨h0, hsem⟩, H⟩
          replace H : Hp _ _ _ _ _ := H
          have hnn := lvlA_nonneg h0
          by_cases h2 : 2 ≤ id
          · obtain ⟨j, d, rfl, hsl, hlv⟩ : ∃ (j : Nat) (d : Nd), id = (j : Int) + 2 ∧ slot (arN P) j = some d ∧ lvlA (arN P) id = d.l := by
              rcases lvlA_node h0 with h | h | h
              · omega
              · omega
              · exact h
            have hdl := hg.inv.lt j d hsl
            have hP := hsl
            rw [slot_arN] at hP
            have hNj : N[j]? = some (i3 d) := by rw [← hnds, List.getElem?_map, hP]; rfl
            have hjN := (List.getElem?_eq_some_iff.1 hNj).1
            obtain ⟨gA, oA, rfl⟩ := hA.A (by omega)
            obtain ⟨hol, hlt⟩ := ord_at hord hdl
            obtain ⟨gB, oB, rfl⟩ := hS.A (by omega)
            have hgo : (intsI o)[d.l]? = some (.int .i64 (((natsI o).getD d.l 0 : Nat) : Int)) := by rw [intsI, List.getElem?_map, hol]; rfl
            have htop := hg.topo j d hP
            have hlev := hg.inv.inv.lev j d hsl
            have hnode := sem_node hg.inv.inv (id := (j : Int) + 2) (d := d) (by rw [nd_slot]; exact hsl) (asgP (natsI o) p)
            have hasg : asgP (natsI o) p d.l = p.testBit ((natsI o).getD d.l 0) := by unfold asgP; rw [natsI_length, decide_eq_true hdl, Bool.true_and]
            rw [hasg] at hnode
            refine cond_yes (decide_eq_true (by assumption)) ?_
            refine cut_rule (γ := Nat) _ rfl (fun g7 => [(7, .pointer (some ⟨g7, 0, none⟩))]) (fun g7 w' => Hp w (fun _ => False) w' [blk g7 230 (k3c d.l d.lo d.hi), blk g4 24 (sc (setTo (natsI o) (sem (arN P) r) p)), blk g2 24 (sc 0), blk g1 148 (grC (.slice (some ⟨gB, oB, none⟩) o.length co) (.slice (some ⟨gA, oA, none⟩) N.length c) r)] []) ?_ ?_
            · refine fieldAddr_by (fa148_1 _) ?_
              refine H.load 2 rfl agg146 rfl ?_
              refine idxAddr_sl Try.underlying146 size230 j (sub2 (by omega)) hjN (o' := oA + j * 3) (by omega) ?_
              refine Sl.loadAgg H hA encI_length agg230 size230 j rfl hNj ?_
              refine H.alloc 230 zero230 rfl ?_
              clear H
              intro g7 w7 H
              refine H.storeAll 0 rfl size230 rfl (fun v hv => encI_one (i3 d) v hv) ?_
              clear H
              intro w8 H
              exact ⟨g7, ⟨rfl, trivial⟩, H⟩
            clear H
            rintro g7 u w7 H
            replace H : Hp _ _ _ _ _ := H
            refine cut_rule (γ := Unit) _ rfl (fun _ => [(6, .int .i64 (d.lo : Int))]) (fun _ w' => Hp w (fun _ => False) w' [blk g7 230 (k3c d.l d.lo d.hi), blk g4 24 (sc (setTo (natsI o) (sem (arN P) r) p)), blk g2 24 (sc 0), blk g1 148 (grC (.slice (some ⟨gB, oB, none⟩) o.length co) (.slice (some ⟨gA, oA, none⟩) N.length c) r)] []) ?_ ?_
            · refine fieldAddr_by (fa230_1 _ _) ?_
              refine H.load 0 rfl agg3 rfl ?_
              exact ⟨(), ⟨rfl, trivial⟩, H⟩
            clear H
            rintro ⟨⟩ u w8 H
            replace H : Hp _ _ _ _ _ := H
            refine fieldAddr_by (fa148_0 _) ?_
            refine H.load 3 rfl agg32 rfl ?_
            refine fieldAddr_by (fa230_0 _ _) ?_
            refine H.load 0 rfl agg3 rfl ?_
            refine idxAddr_sl Try.underlying32 size3 d.l rfl hdl (o' := oB + d.l) (by omega) ?_
            refine H.loadSl (i := d.l) hS agg3 _ rfl hgo ?_
            refine bin_shr_i64 (by omega) ?_
            refine bin_by_eq rfl (y' := ((1 : Nat) : Int)) rfl (bin_and_i64 (Nat.lt_of_le_of_lt (Nat.div_le_self _ _) (by omega)) (by omega) ?_)
            have hbm := bit_mod p ((natsI o).getD d.l 0)
            rw [Nat.and_one_is_mod, hbm]
            cases hpb : p.testBit ((natsI o).getD d.l 0) with
            | true =>
              rw [hpb, if_pos rfl] at hnode
              refine cond_yes rfl ?_
              refine fieldAddr_by (fa230_2 _ _) ?_
              refine H.load 0 rfl agg3 rfl ?_
              exact ⟨(d.hi : Int), by show (d.hi : Int).toNat < ((j : Int) + 2).toNat; omega, ⟨rfl, trivial⟩, ⟨by omega, by rw [← hnode, hsem]⟩, H.forget⟩
            | false =>
              rw [hpb, if_neg (by decide)] at hnode
              refine cond_no rfl ?_
              exact ⟨(d.lo : Int), by show (d.lo : Int).toNat < ((j : Int) + 2).toNat; omega, ⟨rfl, trivial⟩, ⟨by omega, by rw [← hnode, hsem]⟩, H.forget⟩
          · refine cond_no (decide_eq_false (by assumption)) ?_
            refine ⟨id, ⟨rfl, trivial⟩, ⟨by omega, ?_⟩, H⟩
            rw [← hsem, sem_none (nd_end (by omega))]
        clear H
        rintro id u w6 ⟨⟨hid, hsem⟩, H⟩
        replace H : Hp _ _ _ _ _ := H
        refine cond_beq (fun h8 => ?_) (fun h8 => ?_)
        · refine H.loadAll 0 rfl agg24 size24 ?_
          refine call_fn (c46_yes _ _ (by first | assumption | omega | decide) _) ?_
          rintro _ w10 ⟨rfl, hk⟩
          replace H := H.same hk
          clear hk
          refine H.storeSet 0 rfl ?_
          clear H
          intro w11 H
          have hF : sem (arN P) r (asgP (natsI o) p) = true := by rw [← hsem]; exact decide_eq_true (by assumption)
          exact ⟨(), trivial, by rw [← setTo_yes (by omega) hF]; exact H⟩
        · have hF : sem (arN P) r (asgP (natsI o) p) = false := by rw [← hsem]; exact decide_eq_false (by assumption)
          exact ⟨(), trivial, by rw [← setTo_no hF]; exact H⟩
      · clear H
        rintro ⟨⟩ u w5 H
        exact ⟨p + 1, by show 2 ^ o.length - (p + 1) < 2 ^ o.length - p; omega, ⟨up (by omega), trivial⟩, by show p + 1 ≤ 2 ^ o.length; omega, H⟩
    · obtain rfl : p = 2 ^ o.length := by
        have : ¬ p < 2 ^ o.length := fun h => h7 (by exact_mod_cast h)
        omega
      exact ⟨(), trivial, H⟩
  clear H
  rintro ⟨⟩ u w4 H
  replace H : Hp _ _ _ _ _ := H
  refine H.loadAll 0 rfl agg24 size24 ?_
  refine H.storeSet 1 rfl ?_
  clear H
  intro w6 H
  refine H.loadAll 1 rfl agg24 size24 ?_
  refine ⟨rfl, ?_⟩
  have hset : setTo (natsI o) (sem (arN P) r) (2 ^ o.length) = setD (natsI o) (arN P) r := by unfold setTo setD; rw [natsI_length]
  rw [hset] at H ⊢
  exact ⟨.inr ⟨P, hg, rfl⟩, H.keeps⟩
end Go.Proofs.Ytjebpngdinbckaa
end

section
/- Graphs: Of, plain. -/
namespace Go.Proofs.Ytjebpngdinbckaa
open Go.Dk

/-- A thing of which the first levels are fixed. -/
def pre (c : List Bool) (a : Asg) : Asg := fun k => if k < c.length then c.getD k false else a k
def preF (F : Dk.Fn) (c : List Bool) : Dk.Fn := fun a => F (pre c a)
theorem preF_nil (F : Dk.Fn) : preF F [] = F := by
  funext a
  show F (pre [] a) = F a
  congr 1
theorem preF_snoc (F : Dk.Fn) (c : List Bool) (v : Bool) : preF F (c ++ [v]) = fun b => preF F c (upA b c.length v) := by
  funext b
  show F (pre (c ++ [v]) b) = F (pre c (upA b c.length v))
  congr 1
  funext k
  unfold pre upA
  rw [List.length_append]
  by_cases h : k < c.length
  · rw [if_pos (by show k < c.length + 1; omega), if_pos h, List.getD_eq_getElem?_getD, List.getElem?_append_left h, ← List.getD_eq_getElem?_getD]
  · by_cases he : k = c.length
    · subst he
      rw [if_pos (by show c.length < c.length + 1; omega), if_neg (Nat.lt_irrefl _), if_pos rfl, List.getD_eq_getElem?_getD, List.getElem?_append_right (Nat.le_refl _)]
      simp
    · rw [if_neg (by show ¬ k < c.length + 1; omega), if_neg h, if_neg he]
theorem preF_indep (F : Dk.Fn) (c : List Bool) : ∀ j, j < c.length → Indep (preF F c) j := fun j hj a b => by
  show F (pre c (upA a j b)) = F (pre c a)
  congr 1
  funext k
  unfold pre upA
  by_cases h : k < c.length
  · rw [if_pos h, if_pos h]
  · rw [if_neg h, if_neg h, if_neg (by omega)]
theorem preF_low {n : Nat} {F : Dk.Fn} (hF : Low n F) (c : List Bool) : Low n (preF F c) := fun a b hab => hF _ _ fun k hk => by
  unfold pre
  split
  · rfl
  · exact hab k hk
/-- The points of which the first levels are fixed. -/
def allC (o : List Nat) (c : List Bool) : Nat := setOf fun p => decide (p < 2 ^ o.length) && (List.range c.length).all fun j => p.testBit (o.getD j 0) == c.getD j false
theorem allC_lt (o : List Nat) (c : List Bool) : allC o c < 2 ^ 256 := setOf_lt _
theorem allC_nil (o : List Nat) : allC o [] = allN o.length := by
  unfold allC allN
  congr 1
  funext p
  simp
theorem tb_allC {o : List Nat} (ho : o.length ≤ 8) {c : List Bool} {p : Nat} : (allC o c).testBit p = true ↔ p < 2 ^ o.length ∧ ∀ j, j < c.length → p.testBit (o.getD j 0) = c.getD j false := by
  have h256 := pow_le_256 ho
  unfold allC
  rw [testBit_setOf, Bool.and_eq_true, Bool.and_eq_true, decide_eq_true_eq, decide_eq_true_eq, List.all_eq_true]
  constructor
  · rintro ⟨_, h1, h2⟩
    exact ⟨h1, fun j hj => by simpa using h2 j (List.mem_range.2 hj)⟩
  · rintro ⟨h1, h2⟩
    exact ⟨by omega, h1, fun j hj => by simpa using h2 j (List.mem_range.1 hj)⟩
theorem half_allC {o : List Nat} (ho : o.length ≤ 8) (c : List Bool) (v : Bool) : halfN (allC o c) (o.getD c.length 0) v = allC o (c ++ [v]) := by
  refine set_ext (halfN_lt _ _ _) (allC_lt _ _) fun p hp => ?_
  unfold halfN
  rw [testBit_setOf, decide_eq_true hp, Bool.true_and, Bool.eq_iff_iff, Bool.and_eq_true, tb_allC ho, tb_allC ho, beq_iff_eq]
  constructor
  · rintro ⟨⟨h1, h2⟩, h3⟩
    refine ⟨h1, fun j hj => ?_⟩
    rw [List.length_append] at hj
    by_cases hjc : j < c.length
    · rw [List.getD_eq_getElem?_getD (l := c ++ [v]), List.getElem?_append_left hjc, ← List.getD_eq_getElem?_getD]; exact h2 j hjc
    · have : j = c.length := by have : j < c.length + 1 := hj; omega
      subst this
      rw [List.getD_eq_getElem?_getD (l := c ++ [v]), List.getElem?_append_right (Nat.le_refl _)]
      simpa using h3
  · rintro ⟨h1, h2⟩
    refine ⟨⟨h1, fun j hj => ?_⟩, ?_⟩
    · have := h2 j (by rw [List.length_append]; show j < c.length + 1; omega)
      rwa [List.getD_eq_getElem?_getD (l := c ++ [v]), List.getElem?_append_left hj, ← List.getD_eq_getElem?_getD] at this
    · have := h2 c.length (by rw [List.length_append]; show c.length < c.length + 1; omega)
      rw [List.getD_eq_getElem?_getD (l := c ++ [v]), List.getElem?_append_right (Nat.le_refl _)] at this
      simpa using this
theorem pt_pre {o : List Nat} (ho : OrdO o) {c : List Bool} (hc : c.length ≤ o.length) (a : Asg) : (allC o c).testBit (ptA o (pre c a)) = true := by
  rw [tb_allC ho.le]
  refine ⟨ptA_lt _ _, fun j hj => ?_⟩
  have hjo : j < o.length := by omega
  rw [testBit_ptA _ (ho.get_lt hjo), ho.idx_get hjo]
  unfold pre
  rw [if_pos hj]
theorem pre_pt {o : List Nat} (ho : OrdO o) {c : List Bool} {p : Nat} (h : (allC o c).testBit p = true) : ∀ k, k < o.length → pre c (asgP o p) k = asgP o p k := fun k hk => by
  unfold pre
  split
  · rename_i hkc
    rw [← ((tb_allC ho.le).1 h).2 k hkc]
    unfold asgP
    rw [decide_eq_true hk, Bool.true_and]
  · rfl
theorem pre_zero {o : List Nat} (ho : OrdO o) {s : Nat} (hs : s < 2 ^ 256) {c : List Bool} (hc : c.length ≤ o.length) : s &&& allC o c = 0 ↔ ∀ a, preF (FnS o s) c a = false := by
  constructor
  · intro h a
    show s.testBit (ptA o (pre c a)) = false
    have h1 := congrArg (fun x => x.testBit (ptA o (pre c a))) h
    simp only [Nat.testBit_and, Nat.zero_testBit, pt_pre ho hc a, Bool.and_true] at h1
    exact h1
  · intro h
    refine Nat.eq_of_testBit_eq fun p => ?_
    rw [Nat.testBit_and, Nat.zero_testBit]
    cases hp : (allC o c).testBit p with
    | false => rw [Bool.and_false]
    | true =>
      have h1 := h (asgP o p)
      have hp2 := ((tb_allC ho.le).1 hp).1
      have h2 : FnS o s (pre c (asgP o p)) = FnS o s (asgP o p) := FnS_low ho s _ _ fun k hk => pre_pt ho hp k hk
      rw [Bool.and_true]
      have h3 : FnS o s (pre c (asgP o p)) = false := h1
      rw [h2, FnS_asg ho s hp2] at h3
      exact h3
theorem pre_one {o : List Nat} (ho : OrdO o) {s : Nat} (hs : s < 2 ^ 256) {c : List Bool} (hc : c.length ≤ o.length) : s &&& allC o c = allC o c ↔ ∀ a, preF (FnS o s) c a = true := by
  constructor
  · intro h a
    show s.testBit (ptA o (pre c a)) = true
    have h1 := congrArg (fun x => x.testBit (ptA o (pre c a))) h
    simp only [Nat.testBit_and, pt_pre ho hc a, Bool.and_true] at h1
    exact h1
  · intro h
    refine Nat.eq_of_testBit_eq fun p => ?_
    rw [Nat.testBit_and]
    cases hp : (allC o c).testBit p with
    | false => rw [Bool.and_false]
    | true =>
      have hp2 := ((tb_allC ho.le).1 hp).1
      have h2 : FnS o s (pre c (asgP o p)) = FnS o s (asgP o p) := FnS_low ho s _ _ fun k hk => pre_pt ho hp k hk
      have h3 : FnS o s (pre c (asgP o p)) = true := h (asgP o p)
      rw [h2, FnS_asg ho s hp2] at h3
      rw [h3]; rfl
theorem pre_full {o : List Nat} (ho : OrdO o) {s : Nat} {c : List Bool} (hc : c.length = o.length) : (∀ a, preF (FnS o s) c a = false) ∨ ∀ a, preF (FnS o s) c a = true := by
  have h : ∀ a b, preF (FnS o s) c a = preF (FnS o s) c b := fun a b => FnS_low ho s _ _ fun k hk => by
    unfold pre; rw [if_pos (by omega), if_pos (by omega)]
  cases h0 : preF (FnS o s) c (fun _ => false) with
  | false => exact .inl fun a => by rw [h a fun _ => false, h0]
  | true => exact .inr fun a => by rw [h a fun _ => false, h0]
end Go.Proofs.Ytjebpngdinbckaa
end

section
/- Graphs: Of. -/
namespace Go.Proofs.Ytjebpngdinbckaa
open Go.Dk
attribute [local irreducible] IntKind.wrap

theorem agg240 : aggT Try.prog 240 = some false := by kernel_rfl
theorem size240 : sizeT Try.prog 240 = some 1 := by kernel_rfl
theorem zero240 : zeroT Try.prog 240 = some .nilFunc := by kernel_rfl
/-- What building holds. -/
def ofL (gm rm : Nat) (sv : Value) (N : List Nd) (g11 g10 g3 g2 : Nat) (B : Option Addr) (co : Nat) (o : List Int) (s : Nat) : List Res :=
  [mkR gm rm sv N, blk g11 240 #[.func (.func 199) #[] #[.pointer (some ⟨g2, 0, none⟩), .pointer (some ⟨g11, 0, none⟩), .pointer (some ⟨g3, 0, none⟩), .pointer (some ⟨g10, 0, none⟩)]], blk g10 236 #[.pointer (some ⟨gm, 0, none⟩)], blk g3 32 #[.slice B o.length co], blk g2 24 (sc s)]
theorem ent199 : enters Try.prog 199 = true := by kernel_rfl
theorem c199 {o : List Int} (hord : OrdI o) (s : Nat) (hs : s < 2 ^ 256) (gm rm g11 g10 g3 g2 : Nat) (B : Option Addr) (co : Nat) (w0 : World) (hS : Sl w0 (.slice B o.length co) 1 o.length (intsI o)) : ∀ (f : Nat) (c : List Bool) (N : List Nd) (sv0 : Value) (X : List Res) (w : World), c.length ≤ o.length → o.length - c.length < f → BInv o.length (arN N) → N.length + 1000 * (o.length + 1 - c.length) ≤ 100000 →
    Hp w0 (fun _ => False) w (ofL gm rm sv0 N g11 g10 g3 g2 B co o s ++ X) [] →
    Fun Try.prog 199 [sv (allC (natsI o) c), .int .i64 (c.length : Int), .pointer (some ⟨g2, 0, none⟩), .pointer (some ⟨g11, 0, none⟩), .pointer (some ⟨g3, 0, none⟩), .pointer (some ⟨g10, 0, none⟩)] w fun v w' => ∃ sv' N' id, v = .int .i64 id ∧
      Made o.length 1000000 (arN N) (arN N') (preF (FnS (natsI o) s) c) id 0 ∧ Hp w0 (fun _ => False) w' (ofL gm rm sv' N' g11 g10 g3 g2 B co o s ++ X) []
  | 0, c, N, sv0, X, w, hc, hf, hN, hl, H => by omega
  | f + 1, c, N, sv0, X, w, hc, hf, hN, hl, H => by
    refine fun_of_W (N := 46) Try.func199 ent199 rfl rfl rfl (by simp) ?_
    have ho := hord.nats
    have ho8 := hord.le
    have hlen := natsI_length o
    have IH := c199 hord s hs gm rm g11 g10 g3 g2 B co w0 hS f
    refine cut_rule (γ := Nat) _ rfl (fun g6 => [(6, .pointer (some ⟨g6, 0, none⟩))]) (fun g6 w' => Hp w0 (fun _ => False) w' (ofL gm rm sv0 N g11 g10 g3 g2 B co o s ++ (blk g6 24 (sc (allC (natsI o) c)) :: X)) []) ?_ ?_
    · refine H.box 24 _ (cs := sc (allC (natsI o) c)) rfl ?_
      clear H
      intro g6 w1 H
      exact ⟨g6, ⟨rfl, trivial⟩, ((((H.front 5 rfl).front 5 rfl).front 5 rfl).front 5 rfl).front 5 rfl⟩
    clear H
    rintro g6 u w1 H
    replace H : Hp _ _ _ _ _ := H
    have hz := pre_zero ho hs (c := c) (by rw [hlen]; exact hc)
    have h1 := pre_one ho hs (c := c) (by rw [hlen]; exact hc)
    have hand : s &&& allC (natsI o) c < 2 ^ 256 := Nat.and_lt_two_pow _ (allC_lt _ _)
    have halt := allC_lt (natsI o) c
    refine cut_rule (γ := Unit) _ rfl (fun _ => []) (fun _ w' => (s &&& allC (natsI o) c ≠ 0 ∧ s &&& allC (natsI o) c ≠ allC (natsI o) c) ∧ Hp w0 (fun _ => False) w' (ofL gm rm sv0 N g11 g10 g3 g2 B co o s ++ (blk g6 24 (sc (allC (natsI o) c)) :: X)) []) ?_ ?_
    · refine H.loadAll 4 rfl agg24 size24 ?_
      refine H.loadAll 5 rfl agg24 size24 ?_
      refine call_fn (c51 s _ _) ?_
      rintro _ w2 ⟨rfl, hk⟩
      replace H := H.same hk
      clear hk
      refine build24z ?_
      refine bin_eql24 hand (by decide) ?_
      by_cases h0 : s &&& allC (natsI o) c = 0
      · refine cond_yes (by rw [h0]; rfl) ?_
        exact ⟨sv0, N, 0, rfl, Made.refl hN (rep_zero.congr fun a => (hz.1 h0 a).symm), Hp.forget (H.front 5 rfl)⟩
      · refine cond_no (by simpa using h0) ?_
        refine H.loadAll 5 rfl agg24 size24 ?_
        refine bin_eql24 hand halt ?_
        by_cases ha : s &&& allC (natsI o) c = allC (natsI o) c
        · refine cond_yes (by rw [ha]; exact beq_self_eq_true _) ?_
          exact ⟨sv0, N, 1, rfl, Made.refl hN (rep_one.congr fun a => (h1.1 ha a).symm), Hp.forget (H.front 5 rfl)⟩
        · refine cond_no (by simpa using ha) ?_
          exact ⟨(), trivial, ⟨h0, ha⟩, H⟩
    clear H
    rintro ⟨⟩ u w3 ⟨⟨h0, ha⟩, H⟩
    replace H : Hp _ _ _ _ _ := H
    have hcl : c.length < o.length := by
      rcases Nat.eq_or_lt_of_le hc with he | h
      · rcases pre_full ho (s := s) (c := c) (by rw [hlen]; exact he) with hp | hp
        · exact absurd (hz.2 hp) h0
        · exact absurd (h1.2 hp) ha
      · exact h
    obtain ⟨gB, oB, rfl⟩ := hS.A (by omega)
    obtain ⟨hol, hlt⟩ := ord_at hord hcl
    have hgo : (intsI o)[c.length]? = some (.int .i64 (((natsI o).getD c.length 0 : Nat) : Int)) := by rw [intsI, List.getElem?_map, hol]; rfl
    have hcl2 : ∀ v : Bool, (c ++ [v]).length = c.length + 1 := fun v => by simp
    have hlow : Low o.length (FnS (natsI o) s) := by have := FnS_low ho s; rwa [hlen] at this
    refine cut_rule (γ := Int × Value × List Nd) _ rfl (fun (id, _) => [(9, .int .i64 id)]) (fun (id, sv1, N1) w' => Made o.length 1000000 (arN N) (arN N1) (preF (FnS (natsI o) s) (c ++ [false])) id 0 ∧ Hp w0 (fun _ => False) w' (ofL gm rm sv1 N1 g11 g10 g3 g2 (some ⟨gB, oB, none⟩) co o s ++ (blk g6 24 (sc (allC (natsI o) c)) :: X)) []) ?_ ?_
    · refine H.drawC ([blk g11 240 #[.func (.func 199) #[] #[.pointer (some ⟨g2, 0, none⟩), .pointer (some ⟨g11, 0, none⟩), .pointer (some ⟨g3, 0, none⟩), .pointer (some ⟨g10, 0, none⟩)]], blk g10 236 #[.pointer (some ⟨gm, 0, none⟩)], blk g3 32 #[.slice (some ⟨gB, oB, none⟩) o.length co], blk g2 24 (sc s)] ++ (blk g6 24 (sc (allC (natsI o) c)) :: X)) (fun u H => Hp.forget H) fol (by kernel_rfl) ?_
      clear H
      intro w4 H
      refine quiet _ (fun w H => H.load 0 rfl agg240 rfl ⟨rfl, rfl⟩) ?_
      refine quiet _ (fun w H => H.loadAll 4 rfl agg24 size24 ⟨rfl, rfl⟩) ?_
      refine quiet _ (fun w H => H.load 2 rfl agg32 rfl ⟨rfl, rfl⟩) ?_
      refine quiet _ (fun w H => idxAddr_sl Try.underlying32 (s := 1) size3 c.length rfl hcl (o' := oB + c.length) (by omega) ⟨rfl, rfl⟩) ?_
      refine quiet _ (fun w H => H.loadSl (i := c.length) hS agg3 _ rfl hgo ⟨rfl, rfl⟩) ?_
      refine call_fn (c49_yes (allC (natsI o) c) _ false (by omega) _) ?_
      rintro _ w5 ⟨rfl, hk⟩
      replace H := H.same hk
      clear hk
      rw [half_allC (by omega)]
      refine ⟨.inl (Hp.forget H), ?_⟩
      have hc1 := IH (c ++ [false]) N sv0 (blk g6 24 (sc (allC (natsI o) c)) :: X) _ (by rw [hcl2]; omega) (by rw [hcl2]; omega) hN (by rw [hcl2]; omega) H
      rw [hcl2] at hc1
      have hup : IntKind.i64.wrap ((c.length : Int) + 1) = ((c.length + 1 : Nat) : Int) := by rw [wrap_i64_in (by omega) (by omega)]; omega
      rw [← hup] at hc1
      refine call_fnG hc1 ?_
      rintro _ w6 ⟨sv1, N1, id, rfl, hm, H⟩
      refine ⟨.inl (Hp.forget H), ?_⟩
      exact ⟨(id, sv1, N1), ⟨rfl, trivial⟩, hm, H⟩
    clear H
    rintro ⟨lo, sv1, N1⟩ u w4 ⟨hm1, H⟩
    replace H : Hp _ _ _ _ _ := H
    have l1 := made_few hm1 (low_hangs (preF_low hlow _))
    rw [arN_live, arN_live, List.length_range] at l1
    have h256 := pow_le_256 ho8
    refine cut_rule (γ := Int × Value × List Nd) _ rfl (fun (id, _) => [(10, .int .i64 id)]) (fun (id, sv2, N2) w' => Made o.length 1000000 (arN N1) (arN N2) (preF (FnS (natsI o) s) (c ++ [true])) id 0 ∧ Hp w0 (fun _ => False) w' (ofL gm rm sv2 N2 g11 g10 g3 g2 (some ⟨gB, oB, none⟩) co o s ++ (blk g6 24 (sc (allC (natsI o) c)) :: X)) []) ?_ ?_
    · refine H.drawC ([blk g11 240 #[.func (.func 199) #[] #[.pointer (some ⟨g2, 0, none⟩), .pointer (some ⟨g11, 0, none⟩), .pointer (some ⟨g3, 0, none⟩), .pointer (some ⟨g10, 0, none⟩)]], blk g10 236 #[.pointer (some ⟨gm, 0, none⟩)], blk g3 32 #[.slice (some ⟨gB, oB, none⟩) o.length co], blk g2 24 (sc s)] ++ (blk g6 24 (sc (allC (natsI o) c)) :: X)) (fun u H => Hp.forget H) fol (by kernel_rfl) ?_
      clear H
      intro w4 H
      refine quiet _ (fun w H => H.load 0 rfl agg240 rfl ⟨rfl, rfl⟩) ?_
      refine quiet _ (fun w H => H.loadAll 4 rfl agg24 size24 ⟨rfl, rfl⟩) ?_
      refine quiet _ (fun w H => H.load 2 rfl agg32 rfl ⟨rfl, rfl⟩) ?_
      refine quiet _ (fun w H => idxAddr_sl Try.underlying32 (s := 1) size3 c.length rfl hcl (o' := oB + c.length) (by omega) ⟨rfl, rfl⟩) ?_
      refine quiet _ (fun w H => H.loadSl (i := c.length) hS agg3 _ rfl hgo ⟨rfl, rfl⟩) ?_
      refine call_fn (c49_yes (allC (natsI o) c) _ true (by omega) _) ?_
      rintro _ w5 ⟨rfl, hk⟩
      replace H := H.same hk
      clear hk
      rw [half_allC (by omega)]
      refine ⟨.inl (Hp.forget H), ?_⟩
      have hc1 := IH (c ++ [true]) N1 sv1 (blk g6 24 (sc (allC (natsI o) c)) :: X) _ (by rw [hcl2]; omega) (by rw [hcl2]; omega) hm1.inv (by rw [hcl2]; omega) H
      rw [hcl2] at hc1
      have hup : IntKind.i64.wrap ((c.length : Int) + 1) = ((c.length + 1 : Nat) : Int) := by rw [wrap_i64_in (by omega) (by omega)]; omega
      rw [← hup] at hc1
      refine call_fnG hc1 ?_
      rintro _ w6 ⟨sv2, N2, id, rfl, hm, H⟩
      refine ⟨.inl (Hp.forget H), ?_⟩
      exact ⟨(id, sv2, N2), ⟨rfl, trivial⟩, hm, H⟩
    clear H
    rintro ⟨hi, sv2, N2⟩ u w5 ⟨hm2, H⟩
    replace H : Hp _ _ _ _ _ := H
    have l2 := made_few hm2 (low_hangs (preF_low hlow _))
    rw [arN_live, arN_live, List.length_range] at l2
    rw [preF_snoc] at hm1 hm2
    have hnode := nodeN_both (by omega) hN hcl (by omega) (preF_indep (FnS (natsI o) s) c) hm1 hm2
    refine H.load 2 rfl agg236 rfl ?_
    refine build230 ?_
    obtain ⟨lo', rfl⟩ := Int.eq_ofNat_of_zero_le (lvlA_nonneg hm1.ok.there)
    obtain ⟨hi', rfl⟩ := Int.eq_ofNat_of_zero_le (lvlA_nonneg hm2.ok.there)
    have hc2 := c200 (g := gm) (r := rm) (sv := sv2) (N := N2) c.length lo' hi' hm2.inv.inv.uniq (by omega) _ (H.get 0 rfl)
    refine call_fn hc2 ?_
    rintro _ w6 ⟨sv3, rfl, ht⟩
    replace H := H.turnBy 0 rfl ht
    exact ⟨sv3, _, _, rfl, hnode, Hp.forget (Hp.front H 5 rfl)⟩
end Go.Proofs.Ytjebpngdinbckaa
end

section
/- Graphs: Of, the program's. -/
namespace Go.Proofs.Ytjebpngdinbckaa
open Go.Dk
attribute [local irreducible] IntKind.wrap

theorem build148z {w : World} {kk : Value → World → Prop} (h : kk (grV (.slice none 0 0) (.slice none 0 0) 0) w) : buildK Try.prog 148 [] w kk :=
  build_by (fun w => by kernel_rfl) h
theorem ent139 : enters Try.prog 139 = true := by kernel_rfl
theorem c139 (s : Nat) (hs : s < 2 ^ 256) (o : List Int) (B : Option Addr) (co : Nat) (hol : o.length ≤ 1000000) (w : World) (hS : Sl w (.slice B o.length co) 1 o.length (intsI o)) :
    Fun Try.prog 139 [sv s, .slice B o.length co] w fun v w' =>
      (¬ (OrdI o ∧ lessN s (allN o.length) = 0) ∧ v = .tuple #[grV (.slice none 0 0) (.slice none 0 0) 0, .int .i64 1] ∧ Same w w') ∨
      ((OrdI o ∧ lessN s (allN o.length) = 0) ∧ ∃ vo vn N root, v = .tuple #[grV vo vn root, .int .i64 0] ∧ IsGraph (FnS (natsI o) s) N root ∧ NewR w w' (grR vo vn o N)) := by
  refine fun_of_W (N := 38) Try.func139 ent139 rfl rfl rfl (by simp) ?_
  have H := Hp.start0 w
  refine cut_rule (γ := Nat × Nat × Nat) _ rfl (fun (g2, g3, g4) => [(2, .pointer (some ⟨g2, 0, none⟩)), (3, .pointer (some ⟨g3, 0, none⟩)), (4, .pointer (some ⟨g4, 0, none⟩)), (5, .int .i64 0)]) (fun (g2, g3, g4) w' => Hp w (fun _ => False) w' [blk g4 148 (grC (.slice none 0 0) (.slice none 0 0) 0), blk g3 32 #[.slice B o.length co], blk g2 24 (sc s)] []) ?_ ?_
  · refine H.box 24 (sv s) (cs := sc s) rfl ?_
    clear H
    intro g2 w1 H
    refine H.box 32 (.slice B o.length co) (cs := #[.slice B o.length co]) rfl ?_
    clear H
    intro g3 w2 H
    refine H.alloc 148 (cs := grC (.slice none 0 0) (.slice none 0 0) 0) zero148 rfl ?_
    clear H
    intro g4 w3 H
    exact ⟨(g2, g3, g4), ⟨rfl, rfl, rfl, rfl, trivial⟩, H⟩
  clear H
  rintro ⟨g2, g3, g4⟩ u w1 H
  replace H : Hp _ _ _ _ _ := H
  refine cut_rule (γ := Unit) _ rfl (fun _ => []) (fun _ w' => (OrdI o ∧ lessN s (allN o.length) = 0) ∧ Hp w (fun _ => False) w' [blk g4 148 (grC (.slice none 0 0) (.slice none 0 0) 0), blk g3 32 #[.slice B o.length co], blk g2 24 (sc s)] []) ?_ ?_
  · refine H.loadAll 2 rfl agg24 size24 ?_
    refine H.buildSl T111 (n := 1) (cs := sc s) (by omega) (by omega) (by kernel_rfl) ?_
    clear H
    intro g14 w2 H
    refine H.load 2 rfl agg32 rfl ?_
    have hc := fun h => c97 [s] o (some ⟨g14, 0, none⟩) B 1 co w2 (by show 1 ≤ _; decide) (fun x hx => by rw [List.mem_singleton] at hx; subst hx; exact hs) (by omega) h (hS.same H.keeps)
    refine call_fn (hc (by
      have := blkS_Sl (n := 1) (sz := 4) (H.get 0 rfl) rfl (by decide)
      have e : flat encZ [s] = (sc s).toList := by show encZ s ++ [] = _; rw [List.append_nil]; rfl
      rw [e]; exact this)) ?_
    rintro _ w3 ⟨rfl, hk⟩
    replace H := (H.same hk).forget
    clear hk
    have hm : MayS [s] o ↔ (OrdI o ∧ lessN s (allN o.length) = 0) := ⟨fun h => ⟨h.2.1, h.2.2 s (.head _)⟩, fun h => ⟨by show 1 ≤ _; decide, h.1, fun x hx => by rw [List.mem_singleton] at hx; subst hx; exact h.2⟩⟩
    by_cases hmay : OrdI o ∧ lessN s (allN o.length) = 0
    · rw [if_pos (hm.2 hmay)]
      refine cond_no rfl ?_
      exact ⟨(), trivial, hmay, H⟩
    · rw [if_neg (fun h => hmay (hm.1 h))]
      refine cond_yes rfl ?_
      refine build148z ?_
      refine H.storeAll 0 rfl size148 rfl (grC_one _ _ _ _ _ _ _) ?_
      clear H
      intro w6 H
      refine H.loadAll 0 rfl agg148 size148 ?_
      refine ⟨rfl, ?_⟩
      exact .inl ⟨hmay, rfl, H.keeps⟩
  clear H
  rintro ⟨⟩ u w2 ⟨hmay, H⟩
  replace H : Hp _ _ _ _ _ := H
  have hord := hmay.1
  have ho8 := hord.le
  have hlen := natsI_length o
  refine cut_rule (γ := Nat) _ rfl (fun g8 => [(8, .pointer (some ⟨g8, 0, none⟩))]) (fun g8 w' => Hp w (fun _ => False) w' [blk g8 24 (sc (allN o.length)), blk g4 148 (grC (.slice none 0 0) (.slice none 0 0) 0), blk g3 32 #[.slice B o.length co], blk g2 24 (sc s)] []) ?_ ?_
  · refine H.load 1 rfl agg32 rfl ?_
    refine len_sl Try.underlying32 ?_
    refine call_fn (c37_yes o.length ho8 _) ?_
    rintro _ w3 ⟨rfl, hk⟩
    replace H := H.same hk
    clear hk
    refine H.alloc 24 (cs := sc 0) zero24 sc_zero ?_
    clear H
    intro g8 w4 H
    refine H.storeSet 0 rfl ?_
    clear H
    intro w5 H
    exact ⟨g8, ⟨rfl, trivial⟩, H⟩
  clear H
  rintro g8 u w3 H
  replace H : Hp _ _ _ _ _ := H
  refine cut_rule (γ := Nat × Nat × Nat) _ rfl (fun (g10, gm, rm) => [(10, .pointer (some ⟨g10, 0, none⟩))]) (fun (g10, gm, rm) w' => Hp w (fun _ => False) w' [mkR gm rm (.slice none 0 0) [], blk g10 236 #[.pointer (some ⟨gm, 0, none⟩)], blk g3 32 #[.slice B o.length co], blk g2 24 (sc s), blk g8 24 (sc (allN o.length)), blk g4 148 (grC (.slice none 0 0) (.slice none 0 0) 0)] []) ?_ ?_
  · refine H.makeMap kaN vbN ?_
    clear H
    intro rm w4 H
    refine build239 ?_
    refine H.box 239 _ (cs := mkC (.slice none 0 0) rm) rfl ?_
    clear H
    intro gm w5 H
    refine H.alloc 236 (cs := #[.pointer none]) zero236 rfl ?_
    clear H
    intro g10 w6 H
    refine H.store 0 rfl size236 (by simp) rfl ?_
    clear H
    intro w7 H
    have H := H.ownNil 230 3
    have H : Hp w (fun _ => False) w7 (mapR kaN vbN rm [] :: blk gm 239 (mkC (.slice none 0 0) rm) :: own 230 3 (.slice none 0 0) 0 [] :: [blk g10 236 #[.pointer (some ⟨gm, 0, none⟩)], blk g3 32 #[.slice B o.length co], blk g2 24 (sc s), blk g8 24 (sc (allN o.length)), blk g4 148 (grC (.slice none 0 0) (.slice none 0 0) 0)]) [] := H.sel [3, 2, 0, 1, 6, 7, 4, 5] (by decide) rfl
    exact ⟨(g10, gm, rm), ⟨rfl, trivial⟩, mkClose (N := []) (l := []) ids_nil H⟩
  clear H
  rintro ⟨g10, gm, rm⟩ u w4 H
  replace H : Hp _ _ _ _ _ := H
  refine cut_rule (γ := Nat) _ rfl (fun g11 => [(11, .pointer (some ⟨g11, 0, none⟩))]) (fun g11 w' => Hp w (fun _ => False) w' [mkR gm rm (.slice none 0 0) [], blk g11 240 #[.nilFunc], blk g10 236 #[.pointer (some ⟨gm, 0, none⟩)], blk g3 32 #[.slice B o.length co], blk g2 24 (sc s), blk g8 24 (sc (allN o.length)), blk g4 148 (grC (.slice none 0 0) (.slice none 0 0) 0)] []) ?_ ?_
  · refine H.alloc 240 (cs := #[.nilFunc]) zero240 rfl ?_
    clear H
    intro g11 w5 H
    exact ⟨g11, ⟨rfl, trivial⟩, H.front 1 rfl⟩
  clear H
  rintro g11 u w5 H
  replace H : Hp _ _ _ _ _ := H
  refine cut_rule (γ := Unit) _ rfl (fun _ => []) (fun _ w' => Hp w (fun _ => False) w' (ofL gm rm (.slice none 0 0) [] g11 g10 g3 g2 B co o s ++ [blk g8 24 (sc (allN o.length)), blk g4 148 (grC (.slice none 0 0) (.slice none 0 0) 0)]) []) ?_ ?_
  · refine mkCl2 ?_
    refine H.store 1 rfl size240 (by simp) rfl ?_
    clear H
    intro w6 H
    exact ⟨(), trivial, H⟩
  clear H
  rintro ⟨⟩ u w6 H
  replace H : Hp _ _ _ _ _ := H
  refine H.drawC [blk g11 240 #[.func (.func 199) #[] #[.pointer (some ⟨g2, 0, none⟩), .pointer (some ⟨g11, 0, none⟩), .pointer (some ⟨g3, 0, none⟩), .pointer (some ⟨g10, 0, none⟩)]], blk g10 236 #[.pointer (some ⟨gm, 0, none⟩)], blk g3 32 #[.slice B o.length co], blk g2 24 (sc s), blk g8 24 (sc (allN o.length))] (fun u H => Hp.sel H [1, 2, 3, 4, 5] (by decide) rfl) fol (by kernel_rfl) ?_
  clear H
  intro w7 H
  refine quiet _ (fun w H => H.load 1 rfl agg236 rfl ⟨rfl, rfl⟩) ?_
  refine quiet _ (fun w H => H.load 2 rfl agg32 rfl ⟨rfl, rfl⟩) ?_
  refine quiet _ (fun w H => H.load 0 rfl agg240 rfl ⟨rfl, rfl⟩) ?_
  refine quiet _ (fun w H => H.loadAll 4 rfl agg24 size24 ⟨rfl, rfl⟩) ?_
  have hc := c199 hord s hs gm rm g11 g10 g3 g2 B co w hS 10 [] [] (.slice none 0 0) [blk g8 24 (sc (allN o.length)), blk g4 148 (grC (.slice none 0 0) (.slice none 0 0) 0)] w7 (Nat.zero_le _) (by show o.length - 0 < 10; omega) (BInv.nil _) (by show 0 + 1000 * (o.length + 1 - 0) ≤ 100000; omega) H
  rw [allC_nil, hlen] at hc
  refine call_fnG hc ?_
  rintro _ w8 ⟨sv', N', id, rfl, hm, H⟩
  refine ⟨.inl (Hp.sel H [1, 2, 3, 4, 5] (by decide) rfl), ?_⟩
  rw [preF_nil] at hm
  have hfew := made_few hm (low_hangs (by have := FnS_low hord.nats s; rwa [hlen] at this))
  rw [arN_live, List.length_range] at hfew
  have h256 := pow_le_256 ho8
  have hgr := read_graph (by omega) hm.inv hm.ok.there
  have hsem : sem (arN N') id = FnS (natsI o) s := by funext a; exact hm.ok.says a
  rw [hsem] at hgr
  refine call_fn (c201 (by omega) hm.inv (by have : liveA ([] : Ar) = 0 := rfl; show N'.length ≤ 1000000; have h0 : liveA (arN []) = 0 := rfl; omega) gm rm sv' o B co hol id hm.ok.there _ (H.get 0 rfl) (hS.same H.keeps)) ?_
  rintro _ w9 ⟨vo, vn, rfl, hn⟩
  replace H := Hp.addNew H hn
  refine ⟨.inl (Hp.sel H [2, 3, 4, 5, 6] (by decide) rfl), ?_⟩
  have H := H.split
  obtain ⟨Bo', co', rfl, _⟩ := own_form (H.get 0 rfl)
  obtain ⟨Bn, cn, rfl, _⟩ := own_form (H.get 1 rfl)
  refine Hp.storeAll H 8 rfl size148 rfl (grC_one _ _ _ _ _ _ _) ?_
  clear H
  intro w10 H
  refine ⟨.inl (Hp.sel H [3, 4, 5, 6, 7] (by decide) rfl), ?_⟩
  refine H.loadAll 8 rfl agg148 size148 ?_
  refine ⟨rfl, ?_⟩
  have H : Hp w (fun _ => False) w10 ([own 3 1 (.slice Bo' o.length co') o.length (intsI o), own 230 3 (.slice Bn (rd0 N' id).1.1.length cn) (rd0 N' id).1.1.length (flat encI (ndI (rd0 N' id).1.1))] ++ []) [] := Hp.sel H [0, 1] (by decide) rfl
  exact .inr ⟨hmay, .slice Bo' o.length co', .slice Bn (rd0 N' id).1.1.length cn, (rd0 N' id).1.1, (rd0 N' id).2, rfl, hgr, H.join.out⟩
end Go.Proofs.Ytjebpngdinbckaa
end

section
/- Graphs: swapped, plain. -/
namespace Go.Proofs.Ytjebpngdinbckaa
open Go.Dk

def sw (k j : Nat) : Nat := if j = k then k + 1 else if j = k + 1 then k else j
theorem sw_sw (k j : Nat) : sw k (sw k j) = j := by unfold sw; split <;> (try split) <;> (try split) <;> omega
theorem sw_inj {k i j : Nat} (h : sw k i = sw k j) : i = j := by rw [← sw_sw k i, h, sw_sw]
theorem sw_lt {k j n : Nat} (hk : k + 1 < n) (hj : j < n) : sw k j < n := by unfold sw; split <;> (try split) <;> omega
def swA (k : Nat) (a : Asg) : Asg := fun j => a (sw k j)
def swF (k : Nat) (F : Dk.Fn) : Dk.Fn := fun a => F (swA k a)
theorem swA_up (k : Nat) (a : Asg) (j : Nat) (v : Bool) : swA k (upA a j v) = upA (swA k a) (sw k j) v := by
  funext i
  unfold swA upA
  by_cases h : sw k i = j
  · rw [if_pos h, if_pos (by rw [← h, sw_sw])]
  · rw [if_neg h, if_neg (fun h2 => h (by rw [h2, sw_sw]))]
theorem swF_up (k : Nat) (F : Dk.Fn) (j : Nat) (v : Bool) : (fun b => swF k F (upA b j v)) = swF k fun b => F (upA b (sw k j) v) := by
  funext b
  unfold swF
  rw [swA_up]
theorem swF_indep {k : Nat} {F : Dk.Fn} {j : Nat} (h : Indep F (sw k j)) : Indep (swF k F) j := fun a b => by
  unfold swF
  rw [swA_up]
  exact h _ _
theorem swF_low {k n : Nat} (hk : k + 1 < n) {F : Dk.Fn} (h : Low n F) : Low n (swF k F) := fun a b hab => h _ _ fun j hj => hab _ (sw_lt hk hj)
/-- The halves of an id at a level. -/
def halvesP (P : List Nd) (id : Int) (lev : Nat) : Int × Int :=
  match ndA (arN P) id with
  | some d => if d.l = lev then (d.lo, d.hi) else (id, id)
  | none => (id, id)
theorem halves_sem {n : Nat} {P : List Nd} (h : BInv n (arN P)) {id : Int} {lev : Nat} (h0 : (lev : Int) ≤ lvlA (arN P) id) :
    (sem (arN P) (halvesP P id lev).1 = fun b => sem (arN P) id (upA b lev false)) ∧ (sem (arN P) (halvesP P id lev).2 = fun b => sem (arN P) id (upA b lev true)) := by
  unfold halvesP
  cases hd : ndA (arN P) id with
  | none =>
    have e : ∀ v, sem (arN P) id = fun b => sem (arN P) id (upA b lev v) := fun v => by
      funext b; rw [sem_none hd, sem_none hd]
    exact ⟨e false, e true⟩
  | some d =>
    have hl := nd_lvl hd
    by_cases hdl : d.l = lev
    · simp only [hdl, if_true]
      subst hdl
      exact ⟨funext fun b => sem_lo h.inv hd b, funext fun b => sem_hi h.inv hd b⟩
    · simp only [if_neg hdl]
      have e : ∀ v, sem (arN P) id = fun b => sem (arN P) id (upA b lev v) := fun v => by
        funext b
        exact (sem_up h.inv (by omega) b v).symm
      exact ⟨e false, e true⟩
theorem halves_there {n : Nat} {P : List Nd} (h : BInv n (arN P)) {id : Int} (lev : Nat) (h0 : 0 ≤ lvlA (arN P) id) : 0 ≤ lvlA (arN P) (halvesP P id lev).1 ∧ 0 ≤ lvlA (arN P) (halvesP P id lev).2 := by
  unfold halvesP
  cases hd : ndA (arN P) id with
  | none => exact ⟨h0, h0⟩
  | some d =>
    have := lev_of h.inv hd
    by_cases hdl : d.l = lev
    · simp only [hdl, if_true]; exact ⟨by omega, by omega⟩
    · simp only [if_neg hdl]; exact ⟨h0, h0⟩
theorem halves_below {P : List Nd} (ht : Topo P) {id : Int} (lev : Nat) (h0 : 0 ≤ id) : (0 ≤ (halvesP P id lev).1 ∧ (halvesP P id lev).1 ≤ id) ∧ (0 ≤ (halvesP P id lev).2 ∧ (halvesP P id lev).2 ≤ id) := by
  unfold halvesP
  cases hd : ndA (arN P) id with
  | none => exact ⟨⟨h0, Int.le_refl _⟩, h0, Int.le_refl _⟩
  | some d =>
    obtain ⟨i, rfl, hs⟩ := nd_place hd
    rw [slot_arN] at hs
    have := ht i d hs
    by_cases hdl : d.l = lev
    · simp only [hdl, if_true]; exact ⟨⟨by omega, by omega⟩, by omega, by omega⟩
    · simp only [if_neg hdl]; exact ⟨⟨h0, Int.le_refl _⟩, h0, Int.le_refl _⟩
/-- What stands for the first ids. -/
def NowOk (P : List Nd) (k : Nat) (N : List Nd) (now : List Int) (i : Nat) : Prop := ∀ id : Nat, id < i + 2 → ∃ x, now[id]? = some x ∧ Rep (arN N) x (swF k (sem (arN P) id))
theorem NowOk.ext {P : List Nd} {k : Nat} {N N' : List Nd} {now : List Int} {i : Nat} (h : NowOk P k N now i) (hA : ArInv (arN N)) (hA' : ArInv (arN N')) (hx : Ext (arN N) (arN N')) : NowOk P k N' now i := fun id hid => by
  obtain ⟨x, h1, h2⟩ := h id hid
  exact ⟨x, h1, h2.ext hA hA' hx⟩
theorem NowOk.put {P : List Nd} {k : Nat} {N : List Nd} {now : List Int} {i : Nat} {y : Int} (h : NowOk P k N now i) (hi : i + 2 < now.length) (hr : Rep (arN N) y (swF k (sem (arN P) ((i + 2 : Nat) : Int)))) : NowOk P k N (now.set (i + 2) y) (i + 1) := fun id hid => by
  by_cases he : id = i + 2
  · subst he
    exact ⟨y, by rw [List.getElem?_set]; simp [hi], hr⟩
  · obtain ⟨x, h1, h2⟩ := h id (by omega)
    exact ⟨x, by rw [List.getElem?_set, if_neg (Ne.symm he)]; exact h1, h2⟩
/-- A node above, below, or right below the place. -/
theorem sw_other {n : Nat} (hn : n ≤ 23) {P : List Nd} (hP : BInv n (arN P)) {k : Nat} {N : List Nd} (hN : BInv n (arN N)) {room : Int} (hroom : (N.length : Int) < room) {i : Nat} {d : Nd} (hd : slot (arN P) i = some d) (hk : d.l ≠ k) {l : Nat} (hl : sw k l = d.l) (hln : l < n) (hlow : ∀ j, j < l → sw k j < d.l) {lo hi : Int}
    (h1 : Rep (arN N) lo (swF k (sem (arN P) d.lo))) (h2 : Rep (arN N) hi (swF k (sem (arN P) d.hi))) : Made n room (arN N) (arN (nodeN N l lo hi).1) (swF k (sem (arN P) ((i : Int) + 2))) (nodeN N l lo hi).2 0 := by
  have hnd : ndA (arN P) ((i : Int) + 2) = some d := by rw [nd_slot]; exact hd
  refine nodeN_made hroom hN hln hn (fun j hj => swF_indep fun a b => sem_up hP.inv (by rw [lvlA_slot hd]; have := hlow j hj; omega) a b) ?_ ?_
  · rw [swF_up, hl]
    have e : sem (arN P) d.lo = fun b => sem (arN P) ((i : Int) + 2) (upA b d.l false) := funext fun b => sem_lo hP.inv hnd b
    rwa [← e]
  · rw [swF_up, hl]
    have e : sem (arN P) d.hi = fun b => sem (arN P) ((i : Int) + 2) (upA b d.l true) := funext fun b => sem_hi hP.inv hnd b
    rwa [← e]
/-- A half of one at the place. -/
theorem sw_half {n : Nat} (hn : n ≤ 23) {P : List Nd} (hP : BInv n (arN P)) {k : Nat} (hk1 : k + 1 < n) {N : List Nd} (hN : BInv n (arN N)) {room : Int} (hroom : (N.length : Int) < room) {i : Nat} {d : Nd} (hd : slot (arN P) i = some d) (hk : d.l = k) {v : Bool} {x y lo hi : Int}
    (hx : sem (arN P) x = fun b => sem (arN P) d.lo (upA b (k + 1) v)) (hy : sem (arN P) y = fun b => sem (arN P) d.hi (upA b (k + 1) v))
    (h1 : Rep (arN N) lo (swF k (sem (arN P) x))) (h2 : Rep (arN N) hi (swF k (sem (arN P) y))) : Made n room (arN N) (arN (nodeN N (k + 1) lo hi).1) (fun b => swF k (sem (arN P) ((i : Int) + 2)) (upA b k v)) (nodeN N (k + 1) lo hi).2 0 := by
  have hnd : ndA (arN P) ((i : Int) + 2) = some d := by rw [nd_slot]; exact hd
  have ek : sw k k = k + 1 := by unfold sw; rw [if_pos rfl]
  have ek1 : sw k (k + 1) = k := by unfold sw; rw [if_neg (by omega), if_pos rfl]
  have e0 : (fun b => swF k (sem (arN P) ((i : Int) + 2)) (upA b k v)) = swF k fun b => sem (arN P) ((i : Int) + 2) (upA b (k + 1) v) := by rw [swF_up, ek]
  have elo : sem (arN P) d.lo = fun b => sem (arN P) ((i : Int) + 2) (upA b k false) := by
    funext b; have := sem_lo hP.inv hnd b; rwa [hk] at this
  have ehi : sem (arN P) d.hi = fun b => sem (arN P) ((i : Int) + 2) (upA b k true) := by
    funext b; have := sem_hi hP.inv hnd b; rwa [hk] at this
  have e1 : ∀ u, (fun b => swF k (sem (arN P) ((i : Int) + 2)) (upA (upA b (k + 1) u) k v)) = swF k fun b => sem (arN P) ((i : Int) + 2) (upA (upA b k u) (k + 1) v) := fun u => by
    have := swF_up k (fun b => sem (arN P) ((i : Int) + 2) (upA b (k + 1) v)) (k + 1) u
    rw [ek1] at this
    rw [← this]
    funext b
    exact congrFun e0 (upA b (k + 1) u)
  refine nodeN_made hroom hN hk1 hn (fun j hj => ?_) ?_ ?_
  · intro a b
    show swF k _ (upA (upA a j b) k v) = swF k _ (upA a k v)
    by_cases hjk : j = k
    · subst hjk; rw [upA_up]
    · rw [upA_comm a hjk]
      have hj2 : sw k j = j := by unfold sw; rw [if_neg hjk, if_neg (by omega)]
      have : Indep (swF k (sem (arN P) ((i : Int) + 2))) j := swF_indep fun a b => sem_up hP.inv (by rw [lvlA_slot hd, hj2]; omega) a b
      exact this _ _
  · rw [e1]
    have e : (fun b => sem (arN P) ((i : Int) + 2) (upA (upA b k false) (k + 1) v)) = sem (arN P) x := by
      rw [hx, elo]
      funext b
      show _ = sem (arN P) ((i : Int) + 2) (upA (upA b (k + 1) v) k false)
      rw [upA_comm b (show k ≠ k + 1 by omega)]
    rw [e]; exact h1
  · rw [e1]
    have e : (fun b => sem (arN P) ((i : Int) + 2) (upA (upA b k true) (k + 1) v)) = sem (arN P) y := by
      rw [hy, ehi]
      funext b
      show _ = sem (arN P) ((i : Int) + 2) (upA (upA b (k + 1) v) k true)
      rw [upA_comm b (show k ≠ k + 1 by omega)]
    rw [e]; exact h2
/-- One at the place. -/
theorem sw_place {n : Nat} (hn : n ≤ 23) {P : List Nd} (hP : BInv n (arN P)) {k : Nat} (hk1 : k + 1 < n) {N : List Nd} (hN : BInv n (arN N)) {room : Int} (hroom : (N.length : Int) < room) {i : Nat} {d : Nd} (hd : slot (arN P) i = some d) (hk : d.l = k) {lo hi : Int}
    (h1 : Rep (arN N) lo fun b => swF k (sem (arN P) ((i : Int) + 2)) (upA b k false)) (h2 : Rep (arN N) hi fun b => swF k (sem (arN P) ((i : Int) + 2)) (upA b k true)) : Made n room (arN N) (arN (nodeN N k lo hi).1) (swF k (sem (arN P) ((i : Int) + 2))) (nodeN N k lo hi).2 0 :=
  nodeN_made hroom hN (by omega) hn (fun j hj => swF_indep fun a b => sem_up hP.inv (by
    rw [lvlA_slot hd]
    have hj2 : sw k j = j := by unfold sw; rw [if_neg (by omega), if_neg (by omega)]
    rw [hj2]; omega) a b) h1 h2
theorem nodeN_more (N : List Nd) (k : Nat) (lo hi : Int) : (nodeN N k lo hi).1.length ≤ N.length + 1 := by
  unfold nodeN
  split
  · show N.length ≤ _; omega
  · cases findA (arN N) ⟨k, lo.toNat, hi.toNat⟩ with
    | some i => show N.length ≤ _; omega
    | none => show (N ++ [_]).length ≤ _; rw [List.length_append]; exact Nat.le_refl _
theorem bits_ext' {p q : Nat} (h : ∀ j, p.testBit j = q.testBit j) : p = q := Nat.eq_of_testBit_eq h
/-- The orders. -/
def swL (o : List Int) (k : Nat) : List Int := (o.set k (o.getD (k + 1) 0)).set (k + 1) (o.getD k 0)
theorem swL_length (o : List Int) (k : Nat) : (swL o k).length = o.length := by simp [swL]
theorem swL_get {o : List Int} {k : Nat} (hk : k + 1 < o.length) (j : Nat) : (swL o k)[j]? = o[sw k j]? := by
  have g : ∀ j, j < o.length → o[j]? = some (o.getD j 0) := fun j hj => by rw [List.getD_eq_getElem?_getD, List.getElem?_eq_getElem hj]; rfl
  unfold swL sw
  rw [List.getElem?_set, List.getElem?_set]
  by_cases h1 : k + 1 = j
  · subst h1
    rw [if_pos rfl, List.length_set, if_pos hk, if_neg (show ¬ k + 1 = k by omega), if_pos rfl, g k (by omega)]
  · rw [if_neg h1]
    by_cases h2 : k = j
    · subst h2
      rw [if_pos rfl, if_pos rfl, if_pos (by omega), g (k + 1) hk]
    · rw [if_neg h2, if_neg (Ne.symm h2), if_neg (Ne.symm h1)]
theorem swL_mem {o : List Int} {k : Nat} (hk : k + 1 < o.length) {x : Int} (h : x ∈ swL o k) : x ∈ o := by
  obtain ⟨j, hj⟩ := List.getElem?_of_mem h
  rw [swL_get hk] at hj
  exact List.mem_of_getElem? hj
theorem swL_ord {o : List Int} (h : OrdI o) {k : Nat} (hk : k + 1 < o.length) : OrdI (swL o k) := by
  have hn : (swL o k).Nodup := by
    rw [List.nodup_iff_pairwise_ne, List.pairwise_iff_getElem]
    intro i j hi hj hij he
    have he : (swL o k)[i]? = (swL o k)[j]? := by rw [List.getElem?_eq_getElem hi, List.getElem?_eq_getElem hj, he]
    rw [swL_get hk, swL_get hk] at he
    rw [swL_length] at hi
    have h1 := sw_lt hk hi
    have := sw_inj ((List.getElem?_inj h1 h.nodup).1 he)
    omega
  exact ⟨hn, fun x hx => by rw [swL_length]; exact h.rng x (swL_mem hk hx), by rw [swL_length]; exact h.le⟩
theorem natsI_swL {o : List Int} {k : Nat} (hk : k + 1 < o.length) (j : Nat) : (natsI (swL o k)).getD j 0 = (natsI o).getD (sw k j) 0 := by
  unfold natsI
  rw [List.getD_eq_getElem?_getD, List.getD_eq_getElem?_getD, List.getElem?_map, List.getElem?_map, swL_get hk]
theorem FnS_swL {o : List Int} (h : OrdI o) {k : Nat} (hk : k + 1 < o.length) (s : Nat) : swF k (FnS (natsI o) s) = FnS (natsI (swL o k)) s := by
  funext a
  show s.testBit (ptA (natsI o) (swA k a)) = s.testBit (ptA (natsI (swL o k)) a)
  congr 1
  have hl : (natsI (swL o k)).length = (natsI o).length := by rw [natsI_length, natsI_length, swL_length]
  have ho := h.nats
  have ho' := (swL_ord h hk).nats
  refine bits_ext' fun j => ?_
  by_cases hj : j < (natsI o).length
  · rw [testBit_ptA _ hj, testBit_ptA _ (by omega)]
    show a (sw k ((natsI o).idxOf j)) = a ((natsI (swL o k)).idxOf j)
    congr 1
    have h1 := ho.idx_lt hj
    have h2 : sw k ((natsI o).idxOf j) < (natsI o).length := by rw [natsI_length] at h1 ⊢; exact sw_lt hk h1
    have h3 : (natsI (swL o k)).getD (sw k ((natsI o).idxOf j)) 0 = j := by rw [natsI_swL hk, sw_sw, ho.get_idx hj]
    have := ho'.idx_get (k := sw k ((natsI o).idxOf j)) (by omega)
    rw [h3] at this
    exact this.symm
  · have e1 := Nat.testBit_lt_two_pow (Nat.lt_of_lt_of_le (ptA_lt (natsI o) (swA k a)) (Nat.pow_le_pow_right (by decide) (show (natsI o).length ≤ j by omega)))
    have e2 := Nat.testBit_lt_two_pow (Nat.lt_of_lt_of_le (ptA_lt (natsI (swL o k)) a) (Nat.pow_le_pow_right (by decide) (show (natsI (swL o k)).length ≤ j by omega)))
    rw [e1, e2]
end Go.Proofs.Ytjebpngdinbckaa
end

section
/- Graphs: swapped. -/
namespace Go.Proofs.Ytjebpngdinbckaa
open Go.Dk
attribute [local irreducible] IntKind.wrap

theorem ent215 : enters Try.prog 215 = true := by kernel_rfl
theorem c215 {n : Nat} {N : List I3} {P : List Nd} (hnds : ndI P = N) (hP : BInv n (arN P)) (A : Option Addr) (c : Nat) (g7 : Nat) (id : Int) (lev : Nat) (hl : N.length ≤ 1000000) (h0 : 0 ≤ lvlA (arN P) id) (w : World) (hg : (blk g7 239 #[.slice A N.length c, .map none]).ok w) (hA : Sl w (.slice A N.length c) 3 N.length (flat encI N)) :
    Fun Try.prog 215 [.pointer (some ⟨g7, 0, none⟩), .int .i64 id, .int .i64 (lev : Int)] w fun v w' => v = .tuple #[.int .i64 (halvesP P id lev).1, .int .i64 (halvesP P id lev).2] ∧ Same w w' := by
  refine fun_of_W (N := 43) Try.func215 ent215 rfl rfl rfl (by simp) ?_
  have H : Hp w (fun _ => False) w [] [blk g7 239 #[.slice A N.length c, .map none]] := Hp.start w _ _ (fun s hs => by rw [List.mem_singleton] at hs; subst hs; exact hg) (fun s hs => by rw [List.mem_singleton] at hs; subst hs; rintro y rfl; exact blk_lt hg)
  unfold halvesP
  cases hd : ndA (arN P) id with
  | none =>
    have hid := nd_none hd h0
    have hlt : ¬ 2 ≤ id := by omega
    iterate 12 refine cond_no (decide_eq_false (by assumption)) ?_
    refine cond_no rfl ?_
    exact ⟨rfl, H.keeps⟩
  | some d =>
    obtain ⟨j, rfl, hsl⟩ := nd_place hd
    rw [slot_arN] at hsl
    have hNj : N[j]? = some (i3 d) := by rw [← hnds, List.getElem?_map, hsl]; rfl
    have hjN := (List.getElem?_eq_some_iff.1 hNj).1
    obtain ⟨gA, oA, rfl⟩ := hA.A (by omega)
    have hge : 2 ≤ (j : Int) + 2 := by omega
    by_cases hdl : d.l = lev
    · have hdl' : (d.l : Int) = lev := by omega
      simp only [if_pos hdl]
      iterate 3 refine cond_yes (decide_eq_true (by assumption)) ?_
      refine fieldAddr_by (fa239_0 _) ?_
      refine cond_yes (decide_eq_true (by assumption)) ?_
      refine ld_blk (H.ro 0 rfl) agg146 rfl ?_
      iterate 3 refine cond_yes (decide_eq_true (by assumption)) ?_
      refine idxAddr_sl Try.underlying146 size230 j (sub2 (by omega)) hjN (o' := oA + j * 3) (by omega) ?_
      refine cond_yes (decide_eq_true (by assumption)) ?_
      refine fieldAddr_by (fa230_0 _ _) ?_
      refine cond_yes (decide_eq_true (by assumption)) ?_
      refine H.loadSl (i := j * 3 + 0) hA agg3 _ (by omega) ((flat_cell encI_length hNj 0 (by decide)).trans rfl) ?_
      iterate 3 refine cond_yes (decide_eq_true (by assumption)) ?_
      refine cond_yes (beq_iff_eq.2 (by assumption)) ?_
      refine H.draw fol (by kernel_rfl) ?_
      clear H
      intro w11 H
      refine quiet _ (fun w H => fieldAddr_by (fa239_0 _) ⟨rfl, rfl⟩) ?_
      refine quiet _ (fun w H => ld_blk (H.ro 0 rfl) agg146 rfl ⟨rfl, rfl⟩) ?_
      refine quiet _ (fun w H => idxAddr_sl Try.underlying146 size230 j (sub2 (by omega)) hjN (o' := oA + j * 3) (by omega) ⟨rfl, rfl⟩) ?_
      refine quiet _ (fun w H => fieldAddr_by (fa230_1 _ _) ⟨rfl, rfl⟩) ?_
      refine quiet _ (fun w H => H.loadSl (i := j * 3 + 1) hA agg3 _ (by omega) ((flat_cell encI_length hNj 1 (by decide)).trans rfl) ⟨rfl, rfl⟩) ?_
      refine quiet _ (fun w H => fieldAddr_by (fa239_0 _) ⟨rfl, rfl⟩) ?_
      refine quiet _ (fun w H => ld_blk (H.ro 0 rfl) agg146 rfl ⟨rfl, rfl⟩) ?_
      refine quiet _ (fun w H => idxAddr_sl Try.underlying146 size230 j (sub2 (by omega)) hjN (o' := oA + j * 3) (by omega) ⟨rfl, rfl⟩) ?_
      refine quiet _ (fun w H => fieldAddr_by (fa230_2 _ _) ⟨rfl, rfl⟩) ?_
      refine quiet _ (fun w H => H.loadSl (i := j * 3 + 2) hA agg3 _ (by omega) ((flat_cell encI_length hNj 2 (by decide)).trans rfl) ⟨rfl, rfl⟩) ?_
      exact ⟨rfl, H.keeps⟩
    · have hdl' : (d.l : Int) ≠ lev := by omega
      simp only [if_neg hdl]
      iterate 3 refine cond_yes (decide_eq_true (by assumption)) ?_
      refine fieldAddr_by (fa239_0 _) ?_
      refine cond_yes (decide_eq_true (by assumption)) ?_
      refine ld_blk (H.ro 0 rfl) agg146 rfl ?_
      iterate 3 refine cond_yes (decide_eq_true (by assumption)) ?_
      refine idxAddr_sl Try.underlying146 size230 j (sub2 (by omega)) hjN (o' := oA + j * 3) (by omega) ?_
      refine cond_yes (decide_eq_true (by assumption)) ?_
      refine fieldAddr_by (fa230_0 _ _) ?_
      refine cond_yes (decide_eq_true (by assumption)) ?_
      refine H.loadSl (i := j * 3 + 0) hA agg3 _ (by omega) ((flat_cell encI_length hNj 0 (by decide)).trans rfl) ?_
      iterate 3 refine cond_yes (decide_eq_true (by assumption)) ?_
      refine cond_no (beq_eq_false_iff_ne.2 (by assumption)) ?_
      exact ⟨rfl, H.keeps⟩
end Go.Proofs.Ytjebpngdinbckaa
end

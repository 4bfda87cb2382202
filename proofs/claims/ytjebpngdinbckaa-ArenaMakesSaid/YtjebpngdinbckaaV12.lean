import Derived.Test.YtjebpngdinbckaaV11
/- Marking until nothing is added: plain lemmas. -/
namespace Go.Dk

/-- A mark set, but for the ends. -/
def umk (M : List Bool) (j : Nat) : List Bool := M.set j (mb M j || decide (1 < j))
theorem umk_length (M : List Bool) (j : Nat) : (umk M j).length = M.length := List.length_set ..
theorem mb_get {M : List Bool} {j : Nat} (h : j < M.length) : M[j]? = some (mb M j) := by
  unfold mb; rw [List.getD_eq_getElem?_getD, List.getElem?_eq_getElem h]; rfl
theorem mb_put {M : List Bool} {j : Nat} (hj : j < M.length) (b : Bool) (i : Nat) : mb (M.set j b) i = if i = j then b else mb M i := by
  unfold mb
  rw [List.getD_eq_getElem?_getD, List.getD_eq_getElem?_getD, List.getElem?_set]
  by_cases h : j = i
  · subst h; simp [hj]
  · simp [h, Ne.symm h]
theorem mb_umk {M : List Bool} {j : Nat} (hj : j < M.length) (i : Nat) : mb (umk M j) i = (mb M i || (decide (i = j) && decide (1 < j))) := by
  unfold umk
  rw [mb_put hj]
  by_cases h : i = j
  · subst h; simp
  · simp [h]
theorem put_same {M : List Bool} {j : Nat} (hj : j < M.length) : M.set j (mb M j) = M := by
  apply List.ext_getElem?
  intro i
  rw [List.getElem?_set]
  by_cases h : j = i
  · subst h; simp only [if_true]; rw [if_pos hj, mb_get hj]
  · rw [if_neg h]
theorem umk_same {M : List Bool} {j : Nat} (hj : j < M.length) (h : 1 < j → mb M j = true) : umk M j = M := by
  unfold umk
  by_cases h1 : 1 < j
  · rw [h h1]
    have := put_same hj
    rw [h h1] at this
    simpa using this
  · rw [decide_eq_false h1, Bool.or_false]; exact put_same hj
def cntM (M : List Bool) : Nat := M.countP id
theorem cntM_le (M : List Bool) : cntM M ≤ M.length := List.countP_le_length
theorem cntM_put {M : List Bool} {j : Nat} (hj : j < M.length) (b : Bool) : cntM (M.set j b) + (if mb M j then 1 else 0) = cntM M + (if b then 1 else 0) := by
  unfold cntM
  have hm : M[j] = mb M j := by have := mb_get hj; rw [List.getElem?_eq_getElem hj] at this; injection this
  have h := List.countP_set (p := id) (l := M) (i := j) (a := b) hj
  rw [h, hm]
  have hpos : (if mb M j = true then 1 else 0) ≤ List.countP id M := by
    split
    · rename_i hh
      exact List.countP_pos_iff.2 ⟨M[j], List.getElem_mem hj, by rw [hm, hh]; rfl⟩
    · omega
  simp only [id]
  omega
theorem cntM_umk {M : List Bool} {j : Nat} (hj : j < M.length) : cntM (umk M j) = cntM M + if 1 < j ∧ mb M j = false then 1 else 0 := by
  have h := cntM_put hj (mb M j || decide (1 < j))
  unfold umk
  cases hm : mb M j <;> by_cases h1 : 1 < j <;> simp [hm, h1] at h ⊢ <;> omega
/-- All that is marked is come to. -/
def Sou (A : Ar) (ks : List Int) (M : List Bool) : Prop := ∀ j, mb M j = true → ∃ x, j = x + 2 ∧ ∃ k ∈ ks, Rch A k x
/-- The nodes that are kept are marked. -/
def Roo (A : Ar) (ks : List Int) (M : List Bool) : Prop := ∀ k ∈ ks, 2 ≤ k → 0 ≤ lvlA A k → mb M k.toNat = true
/-- What hangs on a marked node below p is marked. -/
def Cls (A : Ar) (M : List Bool) (p : Nat) : Prop := ∀ x n, x + 2 < p → slot A x = some n → mb M (x + 2) = true → (1 < n.lo → mb M n.lo = true) ∧ (1 < n.hi → mb M n.hi = true)
structure RI (A : Ar) (ks : List Int) (M0 : List Bool) (p : Nat) (M : List Bool) (more : Bool) : Prop where
  len : M.length = A.length + 2
  sou : Sou A ks M
  roo : Roo A ks M
  no : more = false → M = M0 ∧ Cls A M p
  yes : more = true → cntM M0 < cntM M
theorem RI.start {A : Ar} {ks : List Int} {M : List Bool} (h1 : M.length = A.length + 2) (h2 : Sou A ks M) (h3 : Roo A ks M) : RI A ks M 2 M false :=
  ⟨h1, h2, h3, fun _ => ⟨rfl, fun x n hx => by omega⟩, fun h => by cases h⟩
theorem RI.skip {A : Ar} {ks : List Int} {M0 M : List Bool} {p : Nat} {more : Bool} (h : RI A ks M0 p M more) (hp : mb M p = false) : RI A ks M0 (p + 1) M more :=
  ⟨h.len, h.sou, h.roo, fun hm => ⟨(h.no hm).1, fun x n hx hs hb => by
    by_cases hxp : x + 2 = p
    · rw [hxp] at hb; rw [hp] at hb; cases hb
    · exact (h.no hm).2 x n (by omega) hs hb⟩, h.yes⟩
theorem RI.step {A : Ar} {ks : List Int} {M0 M : List Bool} {more : Bool} {x : Nat} {n : Nd} (hA : ArInv A) (h : RI A ks M0 (x + 2) M more) (hp : mb M (x + 2) = true) (hs : slot A x = some n) :
    RI A ks M0 (x + 3) (umk (umk M n.lo) n.hi) ((more || (decide (1 < n.lo) && !mb M n.lo)) || (decide (1 < n.hi) && !mb M n.hi)) := by
  have hv := hA.lev x n hs
  have hlo : n.lo < M.length := by
    rw [h.len]
    rcases lvlA_node (A := A) (id := n.lo) (by omega) with e | e | ⟨i, m, e, hi, _⟩
    · omega
    · omega
    · have := slot_lt hi; omega
  have hhi : n.hi < M.length := by
    rw [h.len]
    rcases lvlA_node (A := A) (id := n.hi) (by omega) with e | e | ⟨i, m, e, hi, _⟩
    · omega
    · omega
    · have := slot_lt hi; omega
  have hhi' : n.hi < (umk M n.lo).length := by rw [umk_length]; exact hhi
  have c1 := cntM_umk hlo
  have c2 := cntM_umk hhi'
  have hm : ∀ i, mb (umk (umk M n.lo) n.hi) i = ((mb M i || (decide (i = n.lo) && decide (1 < n.lo))) || (decide (i = n.hi) && decide (1 < n.hi))) := fun i => by rw [mb_umk hhi', mb_umk hlo]
  obtain ⟨x', hx', k, hk, hr⟩ := h.sou _ hp
  have hxx : x' = x := by omega
  subst hxx
  refine ⟨by rw [umk_length, umk_length]; exact h.len, fun j hj => ?_, fun k hk h2 h3 => ?_, fun hf => ?_, fun ht => ?_⟩
  · rw [hm, Bool.or_eq_true, Bool.or_eq_true] at hj
    rcases hj with (hj | hj) | hj
    · exact h.sou j hj
    · simp at hj
      obtain ⟨rfl, h1⟩ := hj
      rcases lvlA_node (A := A) (id := n.lo) (by omega) with e | e | ⟨i, m, e, hi, _⟩
      · omega
      · omega
      · exact ⟨i, by omega, k, hk, hr.trans (.lo hs (by rw [e]; exact .self hi))⟩
    · simp at hj
      obtain ⟨rfl, h1⟩ := hj
      rcases lvlA_node (A := A) (id := n.hi) (by omega) with e | e | ⟨i, m, e, hi, _⟩
      · omega
      · omega
      · exact ⟨i, by omega, k, hk, hr.trans (.hi hs (by rw [e]; exact .self hi))⟩
  · rw [hm, h.roo k hk h2 h3]; rfl
  · simp only [Bool.or_eq_false_iff, Bool.and_eq_false_iff, decide_eq_false_iff_not, Bool.not_eq_false'] at hf
    obtain ⟨⟨hmo, h1⟩, h2⟩ := hf
    have e1 : umk M n.lo = M := umk_same hlo fun hh => by rcases h1 with h | h; · exact absurd hh h
                                                          · exact h
    have e2 : umk M n.hi = M := umk_same hhi fun hh => by rcases h2 with h | h; · exact absurd hh h
                                                          · exact h
    rw [e1, e2]
    obtain ⟨q1, q2⟩ := h.no hmo
    refine ⟨q1, fun y m hy hsy hb => ?_⟩
    by_cases hyx : y = x'
    · subst hyx
      rw [hs] at hsy
      injection hsy with hsy
      subst hsy
      exact ⟨fun hh => by rcases h1 with h | h; · exact absurd hh h
                          · exact h, fun hh => by rcases h2 with h | h; · exact absurd hh h
                                                  · exact h⟩
    · exact q2 y m (by omega) hsy hb
  · have hge : cntM M0 ≤ cntM M := by
      cases hmo : more with
      | false => rw [(h.no hmo).1]; exact Nat.le_refl _
      | true => have := h.yes hmo; omega
    simp only [Bool.or_eq_true, Bool.and_eq_true, decide_eq_true_eq, Bool.not_eq_true'] at ht
    rcases ht with (ht | ht) | ht
    · have := h.yes ht; omega
    · rw [if_pos ht] at c1; omega
    · by_cases hq : 1 < n.lo ∧ mb M n.lo = false
      · rw [if_pos hq] at c1; omega
      · have : mb (umk M n.lo) n.hi = false := by
          rw [mb_umk hlo, ht.2, Bool.false_or, Bool.and_eq_false_iff]
          by_cases he : n.hi = n.lo
          · rw [he] at ht; exact absurd ht hq
          · left; simp [he]
        rw [if_pos ⟨ht.1, this⟩] at c2; omega
theorem cls_rch {A : Ar} {M : List Bool} (hc : ∀ x n, slot A x = some n → mb M (x + 2) = true → (1 < n.lo → mb M n.lo = true) ∧ (1 < n.hi → mb M n.hi = true)) :
    ∀ {id : Int} {x : Nat}, Rch A id x → mb M id.toNat = true → mb M (x + 2) = true := by
  intro id x h
  induction h with
  | self hs => intro hm; exact hm
  | @lo i y n hs hr ih =>
    intro hm
    have hm' : mb M (i + 2) = true := hm
    have hst := hr.start
    obtain ⟨j, m, e, _⟩ := hst
    exact ih ((hc i n hs hm').1 (by omega))
  | @hi i y n hs hr ih =>
    intro hm
    have hm' : mb M (i + 2) = true := hm
    have hst := hr.start
    obtain ⟨j, m, e, _⟩ := hst
    exact ih ((hc i n hs hm').2 (by omega))
theorem RI.done {A : Ar} {ks : List Int} {M : List Bool} (h2 : Sou A ks M) (h3 : Roo A ks M) (hc : Cls A M (A.length + 2)) (x : Nat) : mb M (x + 2) = true ↔ ∃ k ∈ ks, Rch A k x := by
  constructor
  · intro h
    obtain ⟨y, e, hy⟩ := h2 _ h
    have : y = x := by omega
    subst this; exact hy
  · rintro ⟨k, hk, hr⟩
    obtain ⟨i, n, e, hs⟩ := hr.start
    refine cls_rch (fun x n hs => hc x n (by have := slot_lt hs; omega) hs) hr (h3 k hk (by omega) ?_)
    rw [e, lvlA_slot hs]; omega
end Go.Dk

namespace Go.Proofs.Ytjebpngdinbckaa
open Go.Dk
attribute [local irreducible] IntKind.wrap
theorem bls_mb {M : List Bool} {j : Nat} (h : j < M.length) : (bls M)[j]? = some (.bool (mb M j)) := bls_getD h
theorem roo_take {A : Ar} {ks : List Int} {M : List Bool} {i : Nat} {k : Int} (h : Roo A (ks.take i) M) (hk : ks[i]? = some k) (h2 : 2 ≤ k → 0 ≤ lvlA A k → mb M k.toNat = true) : Roo A (ks.take (i + 1)) M := by
  intro k' hk' h3 h4
  rw [List.take_add_one, hk] at hk'
  rcases List.mem_append.1 hk' with h' | h'
  · exact h k' h' h3 h4
  · simp at h'; subst h'; exact h2 h3 h4
theorem sou_nil (A : Ar) (ks : List Int) (n : Nat) : Sou A ks (List.replicate n false) := by
  intro j hj; rw [mb_replicate] at hj; cases hj
theorem roo_nil (A : Ar) (M : List Bool) : Roo A [] M := by
  intro k hk; cases hk
theorem sou_put {A : Ar} {ks : List Int} {M : List Bool} (h : Sou A ks M) {j : Nat} (hj : j < M.length) (h2 : 2 ≤ j) (hk : (j : Int) ∈ ks) (hv : 0 ≤ lvlA A j) : Sou A ks (M.set j true) := by
  intro i hi
  rw [mb_put hj] at hi
  split at hi
  · rename_i e
    subst e
    rcases lvlA_node hv with e | e | ⟨x, n, e, hs, _⟩
    · omega
    · omega
    · exact ⟨x, by omega, _, hk, by rw [e]; exact .self hs⟩
  · exact h i hi
theorem roo_put {A : Ar} {ks : List Int} {M : List Bool} (h : Roo A ks M) {j : Nat} (hj : j < M.length) : Roo A ks (M.set j true) := by
  intro k hk h2 h3
  rw [mb_put hj, h k hk h2 h3]; simp
theorem umk_t {M : List Bool} {j : Nat} (h : mb M j = true) : umk M j = M.set j true := by unfold umk; rw [h]; rfl
theorem umk_f {M : List Bool} {j : Nat} (h : mb M j = false) : umk M j = M.set j (decide ((j : Int) > 1)) := by
  unfold umk; rw [h, Bool.false_or]; congr 1; exact decide_eq_decide.2 (by omega)
theorem ent73 : enters Try.prog 73 = true := by kernel_rfl
theorem c73 (room : Int) (N : List RN) (B : Option Addr) (c : Nat) (ks : List Int) (Bk : Option Addr) (ck : Nat) (w : World) (hl : N.length ≤ 100000) (hkl : ks.length ≤ 100000) (hs : Sl w (.slice B N.length c) 4 N.length (flat encN N))
    (hsk : Sl w (.slice Bk ks.length ck) 1 ks.length (intsI ks)) (hA : ArInv (ab N)) :
    Fun Try.prog 73 [rv room (.slice B N.length c), .slice Bk ks.length ck] w fun v w' =>
      ∃ g M, v = .slice (some ⟨g, 0, none⟩) (N.length + 2) (N.length + 2) ∧ M.length = N.length + 2 ∧ (∀ x, mb M (x + 2) = true ↔ ∃ k ∈ ks, Rch (ab N) k x) ∧
        NewR w w' (own 4 1 (.slice (some ⟨g, 0, none⟩) (N.length + 2) (N.length + 2)) (N.length + 2) (bls M)) := by
  refine fun_of_W (N := 114) Try.func73 ent73 rfl rfl rfl (by simp) ?_
  have H := Hp.start0 w
  refine H.box 64 (rv _ _) (cs := rc _ _) rfl ?_
  clear H
  intro g1 w1 H
  refine cut_rule (γ := Nat) _ rfl (fun g => [(5, .slice (some ⟨g, 0, none⟩) (N.length + 2) (N.length + 2))])
    (fun g w' => Hp w (fun _ => False) w' [own 4 1 (.slice (some ⟨g, 0, none⟩) (N.length + 2) (N.length + 2)) (N.length + 2) (bls (List.replicate (N.length + 2) false)), blk g1 64 (rc room (.slice B N.length c))] []) ?_ ?_
  · refine fieldAddr_by (fa64_1 _) ?_
    refine H.load 0 rfl agg62 rfl ?_
    refine len_sl Try.underlying62 ?_
    refine H.make T29 (N.length + 2) (wlen2 (by omega)) (wlen2 (by omega)) (by omega) (by omega) ?_
    clear H
    intro g2 w2 H
    rw [madeBool, show List.replicate (N.length + 2) (Value.bool false) = bls (List.replicate (N.length + 2) false) from List.map_replicate.symm] at H
    exact ⟨g2, ⟨rfl, trivial⟩, H⟩
  · clear H
    rintro g2 u w2 H
    replace H : Hp _ _ _ _ _ := H
    refine cut_rule (γ := List Bool) _ rfl (fun _ => [])
      (fun M w' => (M.length = N.length + 2 ∧ Sou (ab N) ks M ∧ Roo (ab N) ks M) ∧ Hp w (fun _ => False) w' [own 4 1 (.slice (some ⟨g2, 0, none⟩) (N.length + 2) (N.length + 2)) (N.length + 2) (bls M), blk g1 64 (rc room (.slice B N.length c))] []) ?_ ?_
    · refine loop_rule (γ := Nat × List Bool) _ rfl (fun (i, _) => [(6, .int .i64 (i : Int))])
        (fun (i, M) w' => (i ≤ ks.length ∧ M.length = N.length + 2 ∧ Sou (ab N) ks M ∧ Roo (ab N) (ks.take i) M) ∧ Hp w (fun _ => False) w' [own 4 1 (.slice (some ⟨g2, 0, none⟩) (N.length + 2) (N.length + 2)) (N.length + 2) (bls M), blk g1 64 (rc room (.slice B N.length c))] [])
        (fun (i, _) => ks.length - i) (0, List.replicate (N.length + 2) false) ⟨rfl, trivial⟩ ⟨⟨Nat.zero_le _, List.length_replicate, sou_nil _ _ _, roo_nil _ _⟩, H⟩ ?_
      clear H
      rintro ⟨i, M⟩ u w3 ⟨⟨hi, hM, hS, hR⟩, H⟩
      refine len_sl Try.underlying32 ?_
      refine cond_dec (fun h7 => ?_) (fun h7 => ?_)
      · obtain ⟨k, hk⟩ : ∃ k, ks[i]? = some k := ⟨_, List.getElem?_eq_getElem (by omega)⟩
        have hkm := List.mem_of_getElem? hk
        obtain ⟨g4, o4, rfl⟩ := hsk.A (by omega)
        have hget : (intsI ks)[i]? = some (.int .i64 k) := by rw [intsI, List.getElem?_map, hk]; rfl
        refine cut_rule (γ := List Bool) _ rfl (fun _ => []) (fun M w' => (M.length = N.length + 2 ∧ Sou (ab N) ks M ∧ Roo (ab N) (ks.take (i + 1)) M) ∧ Hp w (fun _ => False) w' [own 4 1 (.slice (some ⟨g2, 0, none⟩) (N.length + 2) (N.length + 2)) (N.length + 2) (bls M), blk g1 64 (rc room (.slice B N.length c))] []) ?_ ?_
        · refine H.draw fol (by kernel_rfl) ?_
          clear H
          intro w5 H
          refine quiet _ (fun w H => idxAddr_sl Try.underlying32 (s := 1) (by kernel_rfl) _ rfl (by first | omega | decide | (simp only [IntKind.wrap_i64]; omega) | (rw [bls, List.length_map]; omega) | (rw [bytesV_length]; omega) | (rw [ints_length]; omega) | (simp; done) | (simp; omega)) (o' := _) (by rw [Nat.mul_one]) ⟨rfl, rfl⟩) ?_
          refine quiet _ (fun w H => H.loadSl (i := i) hsk agg3 _ rfl hget ⟨rfl, rfl⟩) ?_
          refine cond_dec (fun h8 => ?_) (fun h8 => ?_)
          · refine quiet _ (fun w H => H.loadAll 1 rfl agg64 size64 ⟨rfl, rfl⟩) ?_
            iterate 3 refine cond_yes (decide_eq_true (by assumption)) ?_
            refine quiet _ (fun w H => idxAddr_sl Try.underlying32 (s := 1) (by kernel_rfl) _ rfl (by first | omega | decide | (simp only [IntKind.wrap_i64]; omega) | (rw [bls, List.length_map]; omega) | (rw [bytesV_length]; omega) | (rw [ints_length]; omega) | (simp; done) | (simp; omega)) (o' := _) (by rw [Nat.mul_one]) ⟨rfl, rfl⟩) ?_
            refine cond_yes (decide_eq_true (by assumption)) ?_
            refine quiet _ (fun w H => H.loadSl (i := i) hsk agg3 _ rfl hget ⟨rfl, rfl⟩) ?_
            refine cond_yes (decide_eq_true (by assumption)) ?_
            refine call_fn (c167 room N _ c k _ (by omega) (hs.same H.keeps)) ?_ 
            rintro _ w17 ⟨rfl, hk17⟩ 
            replace H := H.same hk17 
            refine ⟨.inl H, ?_⟩
            iterate 2 refine cond_yes (decide_eq_true (by assumption)) ?_
            refine cond_dec (fun h20 => ?_) (fun h20 => ?_)
            · refine idxAddr_sl Try.underlying32 (s := 1) size3 i rfl (by omega) (o' := o4 + i) (by omega) ?_
              refine H.loadSl (i := i) hsk agg3 _ rfl hget ?_
              obtain ⟨j, rfl⟩ : ∃ j : Nat, k = (j : Int) := ⟨k.toNat, by omega⟩
              have hjl := lvlA_range (A := ab N) (id := (j : Int)) (by omega)
              rw [ab_length] at hjl
              refine idxAddr_sl Try.underlying29 (s := 1) size4 j rfl (by omega) (o' := j) (by omega) ?_
              refine H.storeOwn 0 rfl size4 (by rw [bls, List.length_map, hM]; omega) rfl ?_
              clear H
              intro w21 H
              rw [← bls_set] at H
              exact ⟨M.set j true, trivial, ⟨by rw [List.length_set]; exact hM, sou_put hS (by omega) (by omega) hkm (by omega), roo_take (roo_put hR (by omega)) hk fun _ _ => by rw [mb_put (by omega), if_pos (Int.toNat_natCast j)]⟩, H⟩
            · exact ⟨M, trivial, ⟨hM, hS, roo_take hR hk fun _ h => absurd h h20⟩, H⟩
          · refine cond_no (decide_eq_false (by assumption)) ?_
            iterate 6 refine cond_no (decide_eq_false (by assumption)) ?_
            refine cond_no rfl ?_
            exact ⟨M, trivial, ⟨hM, hS, roo_take hR hk fun h _ => absurd h h8⟩, H⟩
        · clear H
          rintro M1 u w4 ⟨⟨hM, hS, hR⟩, H⟩
          replace H : Hp _ _ _ _ _ := H
          exact ⟨(i + 1, M1), by show ks.length - (i + 1) < ks.length - i; omega, ⟨up (by omega), trivial⟩, ⟨by show i + 1 ≤ _; omega, hM, hS, hR⟩, H⟩
      · have : i = ks.length := by omega
        subst this
        rw [List.take_length] at hR
        exact ⟨M, trivial, ⟨hM, hS, hR⟩, H⟩
    · clear H
      rintro M u w3 ⟨⟨hM, hS, hR⟩, H⟩
      replace H : Hp _ _ _ _ _ := H
      refine cut_rule (γ := Unit) _ rfl (fun _ => [(7, .bool true)]) (fun _ w' => Hp.cl H w') ⟨(), ⟨rfl, trivial⟩, H⟩ ?_
      rintro ⟨⟩ u1 w4 H1
      replace H : Hp _ _ _ _ _ := H1
      clear H1
      refine cut_rule (γ := List Bool) _ rfl (fun _ => []) (fun M w' => (M.length = N.length + 2 ∧ Sou (ab N) ks M ∧ Roo (ab N) ks M ∧ Cls (ab N) M ((ab N).length + 2)) ∧ Hp w (fun _ => False) w' [own 4 1 (.slice (some ⟨g2, 0, none⟩) (N.length + 2) (N.length + 2)) (N.length + 2) (bls M), blk g1 64 (rc room (.slice B N.length c))] []) ?_ ?_
      · refine loop_rule (γ := Bool × List Bool) _ rfl (fun (more, _) => [(7, .bool more)])
          (fun (more, M) w' => (M.length = N.length + 2 ∧ Sou (ab N) ks M ∧ Roo (ab N) ks M ∧ (more = false → Cls (ab N) M ((ab N).length + 2))) ∧ Hp w (fun _ => False) w' [own 4 1 (.slice (some ⟨g2, 0, none⟩) (N.length + 2) (N.length + 2)) (N.length + 2) (bls M), blk g1 64 (rc room (.slice B N.length c))] [])
          (fun (more, M) => if more then N.length + 3 - cntM M else 0) (true, M) ⟨rfl, trivial⟩ ⟨⟨hM, hS, hR, fun h => by cases h⟩, H⟩ ?_
        clear H hM hS hR
        rintro ⟨more, M0⟩ u w5 ⟨⟨hM, hS, hR, hC⟩, H⟩
        replace H : Hp _ _ _ _ _ := H
        cases more with
        | false => refine cond_no rfl ?_
                   exact ⟨M0, trivial, ⟨hM, hS, hR, hC rfl⟩, H⟩
        | true =>
          refine cond_yes rfl ?_
          refine cut_rule (γ := Unit) _ rfl (fun _ => [(7, .bool false)]) (fun _ w' => Hp.cl H w') ⟨(), ⟨rfl, trivial⟩, H⟩ ?_
          rintro ⟨⟩ u1 w6 H1
          replace H : Hp _ _ _ _ _ := H1
          clear H1
          refine loop_rule (γ := Nat × List Bool × Bool) _ rfl (fun (p, _, more) => [(8, .int .i64 (p : Int)), (7, .bool more)])
            (fun (p, M, more) w' => (2 ≤ p ∧ p ≤ N.length + 2 ∧ RI (ab N) ks M0 p M more) ∧ Hp w (fun _ => False) w' [own 4 1 (.slice (some ⟨g2, 0, none⟩) (N.length + 2) (N.length + 2)) (N.length + 2) (bls M), blk g1 64 (rc room (.slice B N.length c))] [])
            (fun (p, _, _) => N.length + 2 - p) (2, M0, false) ⟨rfl, rfl, trivial⟩ ⟨⟨Nat.le_refl _, by show 2 ≤ N.length + 2; omega, .start (by rw [ab_length]; exact hM) hS hR⟩, H⟩ ?_
          clear H
          rintro ⟨p, M, more⟩ u w7 ⟨⟨h2p, hp, hI⟩, H⟩
          replace H : Hp _ _ _ _ _ := H
          have hMl : M.length = N.length + 2 := by rw [hI.len, ab_length]
          refine len_sl Try.underlying29 ?_
          refine cond_dec (fun h7 => ?_) (fun h7 => ?_)
          · have hp' : p < N.length + 2 := by omega
            refine idxAddr_sl Try.underlying29 (s := 1) size4 p rfl hp' (o' := p) (by omega) ?_
            refine H.loadOwn 0 rfl agg4 (bls_mb (by omega)) ?_
            refine cond_split (fun hpm => ?_) (fun hpm => ?_)
            · obtain ⟨x, rfl, k, hk, hr⟩ := hI.sou p hpm
              obtain ⟨n, hsx⟩ := hr.slot
              obtain ⟨⟨m, d⟩, hx⟩ : ∃ y, N[x]? = some y := ⟨_, List.getElem?_eq_getElem (by omega)⟩
              have hd : d = false ∧ m = n := by
                have := slot_ab hx
                rw [hsx] at this
                cases d
                · simp at this; exact ⟨rfl, this.symm⟩
                · simp at this
              obtain ⟨rfl, rfl⟩ := hd
              have hv := hA.lev x m hsx
              have hlo := lvlA_range (A := ab N) (id := m.lo) (by omega)
              have hhi := lvlA_range (A := ab N) (id := m.hi) (by omega)
              rw [ab_length] at hlo hhi
              have hst := hI.step hA hpm hsx
              obtain ⟨g0, o0, rfl⟩ := hs.A (by omega)
              refine cut_rule (γ := Nat) _ rfl (fun g9 => [(9, .pointer (some ⟨g9, 0, none⟩))]) (fun g9 w' => Hp w (fun _ => False) w' [blk g9 78 (encN (m, false)).toArray, own 4 1 (.slice (some ⟨g2, 0, none⟩) (N.length + 2) (N.length + 2)) (N.length + 2) (bls M), blk g1 64 (rc room (.slice (some ⟨g0, o0, none⟩) N.length c))] []) ?_ ?_
              · refine fieldAddr_by (fa64_1 _) ?_
                refine H.load 1 rfl agg62 rfl ?_
                refine idxAddr_sl Try.underlying62 (s := 4) size78 x (wsub2 (i := x) (by omega)) (by omega) (o' := o0 + x * 4) rfl ?_
                refine Sl.loadAgg H hs encN_length agg78 size78 x rfl hx ?_
                refine H.alloc 78 zero78 rfl ?_
                clear H
                intro g9 w8 H
                refine H.storeAll 0 rfl size78 rfl (fun v hv => encN_one (m, false) v hv) ?_
                clear H
                intro w9 H
                exact ⟨g9, ⟨rfl, trivial⟩, H⟩
              · clear H
                rintro g9 u w8 H
                replace H : Hp _ _ _ _ _ := H
                have hlo' : m.lo < M.length := by omega
                have hhi' : m.hi < M.length := by omega
                refine cut_rule (γ := Unit) _ rfl (fun _ => [(7, .bool ((more || (decide (1 < m.lo) && !mb M m.lo)) || (decide (1 < m.hi) && !mb M m.hi)))]) (fun _ w' => Hp.cl H w') ?_ ?_
                · refine cond_split (fun h10 => ?_) (fun h10 => ?_)
                  · refine cond_yes (by assumption) ?_
                    iterate 4 refine cond_yes (by assumption) ?_
                    iterate 6 refine cond_yes rfl ?_
                    exact ⟨(), ⟨congrArg Value.bool (by rw [h10]; rfl), trivial⟩, H⟩
                  · refine fieldAddr_by (fa78_1 _) ?_
                    refine cond_no (by assumption) ?_
                    refine H.load 0 rfl agg3 rfl ?_
                    iterate 2 refine cond_no (by assumption) ?_
                    refine cond_dec (fun h28 => ?_) (fun h28 => ?_)
                    · refine cond_yes (decide_eq_true (by assumption)) ?_
                      refine fieldAddr_by (fa78_1 _) ?_
                      refine cond_yes (decide_eq_true (by assumption)) ?_
                      refine H.load 0 rfl agg3 rfl ?_
                      refine cond_yes (decide_eq_true (by assumption)) ?_
                      refine idxAddr_sl Try.underlying29 (s := 1) size4 m.lo rfl (by omega) (o' := m.lo) (by omega) ?_
                      refine cond_yes (decide_eq_true (by assumption)) ?_
                      refine H.loadOwn 1 rfl agg4 (bls_mb hlo') ?_
                      refine cond_yes (decide_eq_true (by assumption)) ?_
                      refine cond_no (by assumption) ?_
                      refine cond_yes (decide_eq_true (by assumption)) ?_
                      refine cond_no (by assumption) ?_
                      refine cond_split (fun h41 => ?_) (fun h41 => ?_)
                      · refine cond_yes (by assumption) ?_
                        iterate 4 refine cond_yes (by assumption) ?_
                        have q28 : (1 < m.lo) := by have h : ((1 : Int) < (m.lo : Int)) := h28; omega
                        exact ⟨(), ⟨congrArg Value.bool (by rw [h10, decide_eq_true q28, h41]; rfl), trivial⟩, H⟩
                      · refine fieldAddr_by (fa78_2 _) ?_
                        refine cond_no (by assumption) ?_
                        refine H.load 0 rfl agg3 rfl ?_
                        iterate 2 refine cond_no (by assumption) ?_
                        refine cond_dec (fun h53 => ?_) (fun h53 => ?_)
                        · refine cond_yes (decide_eq_true (by assumption)) ?_
                          refine fieldAddr_by (fa78_2 _) ?_
                          refine cond_yes (decide_eq_true (by assumption)) ?_
                          refine H.load 0 rfl agg3 rfl ?_
                          refine cond_yes (decide_eq_true (by assumption)) ?_
                          refine idxAddr_sl Try.underlying29 (s := 1) size4 m.hi rfl (by omega) (o' := m.hi) (by omega) ?_
                          refine cond_yes (decide_eq_true (by assumption)) ?_
                          refine H.loadOwn 1 rfl agg4 (bls_mb hhi') ?_
                          refine cond_yes (decide_eq_true (by assumption)) ?_
                          refine cond_no (by assumption) ?_
                          refine cond_yes (decide_eq_true (by assumption)) ?_
                          refine cond_no (by assumption) ?_
                          have q28 : (1 < m.lo) := by have h : ((1 : Int) < (m.lo : Int)) := h28; omega
                          have q53 : (1 < m.hi) := by have h : ((1 : Int) < (m.hi : Int)) := h53; omega
                          exact ⟨(), ⟨congrArg Value.bool (by rw [h10, decide_eq_true q28, h41, decide_eq_true q53]; rfl), trivial⟩, H⟩
                        · refine cond_no (decide_eq_false (by assumption)) ?_
                          iterate 4 refine cond_no (decide_eq_false (by assumption)) ?_
                          refine cond_no (by assumption) ?_
                          refine cond_no (decide_eq_false (by assumption)) ?_
                          refine cond_no (by assumption) ?_
                          have q28 : (1 < m.lo) := by have h : ((1 : Int) < (m.lo : Int)) := h28; omega
                          have q53 : ¬ (1 < m.hi) := by have h : ¬ ((1 : Int) < (m.hi : Int)) := h53; omega
                          exact ⟨(), ⟨congrArg Value.bool (by rw [h10, decide_eq_true q28, h41, decide_eq_false q53]; rfl), trivial⟩, H⟩
                    · refine cond_no (decide_eq_false (by assumption)) ?_
                      iterate 4 refine cond_no (decide_eq_false (by assumption)) ?_
                      refine cond_no (by assumption) ?_
                      refine cond_no (decide_eq_false (by assumption)) ?_
                      refine cond_no (by assumption) ?_
                      refine cond_no rfl ?_
                      refine fieldAddr_by (fa78_2 _) ?_
                      refine cond_no rfl ?_
                      refine H.load 0 rfl agg3 rfl ?_
                      iterate 2 refine cond_no rfl ?_
                      refine cond_dec (fun h90 => ?_) (fun h90 => ?_)
                      · refine cond_yes (decide_eq_true (by assumption)) ?_
                        refine fieldAddr_by (fa78_2 _) ?_
                        refine cond_yes (decide_eq_true (by assumption)) ?_
                        refine H.load 0 rfl agg3 rfl ?_
                        refine cond_yes (decide_eq_true (by assumption)) ?_
                        refine idxAddr_sl Try.underlying29 (s := 1) size4 m.hi rfl (by omega) (o' := m.hi) (by omega) ?_
                        refine cond_yes (decide_eq_true (by assumption)) ?_
                        refine H.loadOwn 1 rfl agg4 (bls_mb hhi') ?_
                        refine cond_yes (decide_eq_true (by assumption)) ?_
                        refine cond_no rfl ?_
                        refine cond_yes (decide_eq_true (by assumption)) ?_
                        refine cond_no rfl ?_
                        have q28 : ¬ (1 < m.lo) := by have h : ¬ ((1 : Int) < (m.lo : Int)) := h28; omega
                        have q90 : (1 < m.hi) := by have h : ((1 : Int) < (m.hi : Int)) := h90; omega
                        exact ⟨(), ⟨congrArg Value.bool (by rw [h10, decide_eq_false q28, decide_eq_true q90]; rfl), trivial⟩, H⟩
                      · refine cond_no (decide_eq_false (by assumption)) ?_
                        iterate 4 refine cond_no (decide_eq_false (by assumption)) ?_
                        refine cond_no rfl ?_
                        refine cond_no (decide_eq_false (by assumption)) ?_
                        refine cond_no rfl ?_
                        have q28 : ¬ (1 < m.lo) := by have h : ¬ ((1 : Int) < (m.lo : Int)) := h28; omega
                        have q90 : ¬ (1 < m.hi) := by have h : ¬ ((1 : Int) < (m.hi : Int)) := h90; omega
                        exact ⟨(), ⟨congrArg Value.bool (by rw [h10, decide_eq_false q28, decide_eq_false q90]; rfl), trivial⟩, H⟩
                · rintro ⟨⟩ u w9 H1
                  replace H : Hp _ _ _ _ _ := H1
                  clear H1
                  refine cut_rule (γ := Unit) _ rfl (fun _ => []) (fun _ w' => Hp w (fun _ => False) w' [blk g9 78 (encN (m, false)).toArray, own 4 1 (.slice (some ⟨g2, 0, none⟩) (N.length + 2) (N.length + 2)) (N.length + 2) (bls (umk M m.lo)), blk g1 64 (rc room (.slice (some ⟨g0, o0, none⟩) N.length c))] []) ?_ ?_
                  · refine H.draw fol (by kernel_rfl) ?_
                    clear H
                    intro w10 H
                    refine quiet _ (fun w H => fieldAddr_by (fa78_1 _) ⟨rfl, rfl⟩) ?_
                    refine quiet _ (fun w H => H.load 0 rfl agg3 rfl ⟨rfl, rfl⟩) ?_
                    refine quiet _ (fun w H => fieldAddr_by (fa78_1 _) ⟨rfl, rfl⟩) ?_
                    refine quiet _ (fun w H => H.load 0 rfl agg3 rfl ⟨rfl, rfl⟩) ?_
                    refine quiet _ (fun w H => idxAddr_sl Try.underlying29 (s := 1) size4 m.lo rfl (by omega) (o' := m.lo) (by omega) ⟨rfl, rfl⟩) ?_
                    refine quiet _ (fun w H => H.loadOwn 1 rfl agg4 (bls_mb hlo') ⟨rfl, rfl⟩) ?_
                    refine cond_split (fun h17 => ?_) (fun h17 => ?_)
                    · refine cond_yes (by assumption) ?_
                      iterate 2 refine cond_yes (by assumption) ?_
                      refine quiet _ (fun w H => idxAddr_sl Try.underlying29 (s := 1) size4 m.lo rfl (by omega) (o' := m.lo) (by omega) ⟨rfl, rfl⟩) ?_
                      refine H.storeOwn 1 rfl size4 (by rw [bls, List.length_map]; exact hlo') rfl ?_ 
                      clear H 
                      intro w22 H 
                      refine ⟨.inr rfl, ?_⟩ 
                      rw [← bls_set] at H
                      exact ⟨(), trivial, by rw [umk_t (by assumption)]; exact H⟩
                    · refine quiet _ (fun w H => fieldAddr_by (fa78_1 _) ⟨rfl, rfl⟩) ?_
                      refine cond_no (by assumption) ?_
                      refine quiet _ (fun w H => H.load 0 rfl agg3 rfl ⟨rfl, rfl⟩) ?_
                      iterate 2 refine cond_no (by assumption) ?_
                      refine quiet _ (fun w H => idxAddr_sl Try.underlying29 (s := 1) size4 m.lo rfl (by omega) (o' := m.lo) (by omega) ⟨rfl, rfl⟩) ?_
                      refine H.storeOwn 1 rfl size4 (by rw [bls, List.length_map]; exact hlo') rfl ?_ 
                      clear H 
                      intro w30 H 
                      refine ⟨.inr rfl, ?_⟩ 
                      rw [← bls_set] at H
                      exact ⟨(), trivial, by rw [umk_f (by assumption)]; exact H⟩
                  · clear H
                    rintro ⟨⟩ u w10 H
                    replace H : Hp _ _ _ _ _ := H
                    have hhj : m.hi < (umk M m.lo).length := by rw [umk_length]; exact hhi'
                    refine H.draw fol (by kernel_rfl) ?_
                    clear H
                    intro w11 H
                    refine quiet _ (fun w H => fieldAddr_by (fa78_2 _) ⟨rfl, rfl⟩) ?_
                    refine quiet _ (fun w H => H.load 0 rfl agg3 rfl ⟨rfl, rfl⟩) ?_
                    refine quiet _ (fun w H => fieldAddr_by (fa78_2 _) ⟨rfl, rfl⟩) ?_
                    refine quiet _ (fun w H => H.load 0 rfl agg3 rfl ⟨rfl, rfl⟩) ?_
                    refine quiet _ (fun w H => idxAddr_sl Try.underlying29 (s := 1) size4 m.hi rfl (by omega) (o' := m.hi) (by omega) ⟨rfl, rfl⟩) ?_
                    refine quiet _ (fun w H => H.loadOwn 1 rfl agg4 (bls_mb hhj) ⟨rfl, rfl⟩) ?_
                    refine cond_split (fun h18 => ?_) (fun h18 => ?_)
                    · refine cond_yes (by assumption) ?_
                      iterate 2 refine cond_yes (by assumption) ?_
                      refine quiet _ (fun w H => idxAddr_sl Try.underlying29 (s := 1) size4 m.hi rfl (by omega) (o' := m.hi) (by omega) ⟨rfl, rfl⟩) ?_
                      refine H.storeOwn 1 rfl size4 (by rw [bls, List.length_map]; exact hhj) rfl ?_ 
                      clear H 
                      intro w23 H 
                      refine ⟨.inr rfl, ?_⟩ 
                      rw [← bls_set] at H
                      exact ⟨(x + 3, umk (umk M m.lo) m.hi, _), by show N.length + 2 - (x + 3) < N.length + 2 - (x + 2); omega, ⟨up (by omega), rfl, trivial⟩, ⟨by show 2 ≤ x + 3; omega, by show x + 3 ≤ N.length + 2; omega, hst⟩, by rw [umk_t (by assumption)]; exact H.forget⟩
                    · refine quiet _ (fun w H => fieldAddr_by (fa78_2 _) ⟨rfl, rfl⟩) ?_
                      refine cond_no (by assumption) ?_
                      refine quiet _ (fun w H => H.load 0 rfl agg3 rfl ⟨rfl, rfl⟩) ?_
                      iterate 2 refine cond_no (by assumption) ?_
                      refine quiet _ (fun w H => idxAddr_sl Try.underlying29 (s := 1) size4 m.hi rfl (by omega) (o' := m.hi) (by omega) ⟨rfl, rfl⟩) ?_
                      refine H.storeOwn 1 rfl size4 (by rw [bls, List.length_map]; exact hhj) rfl ?_ 
                      clear H 
                      intro w31 H 
                      refine ⟨.inr rfl, ?_⟩ 
                      rw [← bls_set] at H
                      exact ⟨(x + 3, umk (umk M m.lo) m.hi, _), by show N.length + 2 - (x + 3) < N.length + 2 - (x + 2); omega, ⟨up (by omega), rfl, trivial⟩, ⟨by show 2 ≤ x + 3; omega, by show x + 3 ≤ N.length + 2; omega, hst⟩, by rw [umk_f (by assumption)]; exact H.forget⟩
            · exact ⟨(p + 1, M, more), by show N.length + 2 - (p + 1) < N.length + 2 - p; omega, ⟨up (by omega), rfl, trivial⟩, ⟨by show 2 ≤ p + 1; omega, by show p + 1 ≤ N.length + 2; omega, hI.skip hpm⟩, H⟩
          · have hpe : p = (ab N).length + 2 := by rw [ab_length]; omega
            subst hpe
            refine ⟨(more, M), ?_, ⟨rfl, trivial⟩, ⟨by rw [hI.len, ab_length], hI.sou, hI.roo, fun hm => (hI.no hm).2⟩, H⟩
            show (if more = true then N.length + 3 - cntM M else 0) < N.length + 3 - cntM M0
            have h1 := cntM_le M0
            have h2 := cntM_le M
            have h3 : M.length = N.length + 2 := by rw [hI.len, ab_length]
            cases more with
            | false => rw [if_neg (by decide)]; omega
            | true => have := hI.yes rfl; rw [if_pos rfl]; omega
      · clear H
        rintro M u w5 ⟨⟨hM, hS, hR, hC⟩, H⟩
        replace H : Hp _ _ _ _ _ := H
        exact ⟨g2, M, rfl, hM, RI.done hS hR hC, H.out⟩
end Go.Proofs.Ytjebpngdinbckaa

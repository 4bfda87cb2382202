import Derived.Test.YtjebpngdinbckaaPart4
import Derived.Maps.RangeRun
import Derived.Laws.Slices
/- Lemmas, part 5: what the proof of the row uses. -/
section
/- Marking until nothing is added: plain lemmas. -/
namespace Go.Dk

/-- A mark set, but for the ends. -/
def umk (M : List Bool) (j : Nat) : List Bool := M.set j (mb M j || decide (1 < j))
theorem umk_length (M : List Bool) (j : Nat) : (umk M j).length = M.length := List.length_set ..
theorem mb_get {M : List Bool} {j : Nat} (h : j < M.length) : M[j]? = some (mb M j) := by
  unfold mb; rw [List.getD_eq_getElem?_getD, List.getElem?_eq_getElem h]; rfl
theorem mb_put {M : List Bool} {j : Nat} (hj : j < M.length) (b : Bool) (i : Nat) : mb (M.set j b) i = if i = j then b else mb M i := by
  unfold mb
  rw [List.getD_eq_getElem?_getD, List.getD_eq_getElem?_getD, List.getElem?_set]
  by_cases h : j = i
  · subst h; simp [hj]
  · simp [h, Ne.symm h]
theorem mb_umk {M : List Bool} {j : Nat} (hj : j < M.length) (i : Nat) : mb (umk M j) i = (mb M i || (decide (i = j) && decide (1 < j))) := by
  unfold umk
  rw [mb_put hj]
  by_cases h : i = j
  · subst h; simp
  · simp [h]
theorem put_same {M : List Bool} {j : Nat} (hj : j < M.length) : M.set j (mb M j) = M := by
  apply List.ext_getElem?
  intro i
  rw [List.getElem?_set]
  by_cases h : j = i
  · subst h; simp only [if_true]; rw [if_pos hj, mb_get hj]
  · rw [if_neg h]
theorem umk_same {M : List Bool} {j : Nat} (hj : j < M.length) (h : 1 < j → mb M j = true) : umk M j = M := by
  unfold umk
  by_cases h1 : 1 < j
  · rw [h h1]
    have := put_same hj
    rw [h h1] at this
    simpa using this
  · rw [decide_eq_false h1, Bool.or_false]; exact put_same hj
def cntMk (M : List Bool) : Nat := M.countP id
theorem cntMk_le (M : List Bool) : cntMk M ≤ M.length := List.countP_le_length
theorem cntMk_put {M : List Bool} {j : Nat} (hj : j < M.length) (b : Bool) : cntMk (M.set j b) + (if mb M j then 1 else 0) = cntMk M + (if b then 1 else 0) := by
  unfold cntMk
  have hm : M[j] = mb M j := by have := mb_get hj; rw [List.getElem?_eq_getElem hj] at this; injection this
  have h := List.countP_set (p := id) (l := M) (i := j) (a := b) hj
  rw [h, hm]
  have hpos : (if mb M j = true then 1 else 0) ≤ List.countP id M := by
    split
    · rename_i hh
      exact List.countP_pos_iff.2 ⟨M[j], List.getElem_mem hj, by rw [hm, hh]; rfl⟩
    · omega
  simp only [id]
  omega
theorem cntMk_umk {M : List Bool} {j : Nat} (hj : j < M.length) : cntMk (umk M j) = cntMk M + if 1 < j ∧ mb M j = false then 1 else 0 := by
  have h := cntMk_put hj (mb M j || decide (1 < j))
  unfold umk
  cases hm : mb M j <;> by_cases h1 : 1 < j <;> simp [hm, h1] at h ⊢ <;> omega
/-- All that is marked is come to. -/
def Sou (A : Ar) (ks : List Int) (M : List Bool) : Prop := ∀ j, mb M j = true → ∃ x, j = x + 2 ∧ ∃ k ∈ ks, Rch A k x
/-- The nodes that are kept are marked. -/
def Roo (A : Ar) (ks : List Int) (M : List Bool) : Prop := ∀ k ∈ ks, 2 ≤ k → 0 ≤ lvlA A k → mb M k.toNat = true
/-- What hangs on a marked node below p is marked. -/
def Cls (A : Ar) (M : List Bool) (p : Nat) : Prop := ∀ x n, x + 2 < p → slot A x = some n → mb M (x + 2) = true → (1 < n.lo → mb M n.lo = true) ∧ (1 < n.hi → mb M n.hi = true)
structure RI (A : Ar) (ks : List Int) (M0 : List Bool) (p : Nat) (M : List Bool) (more : Bool) : Prop where
  len : M.length = A.length + 2
  sou : Sou A ks M
  roo : Roo A ks M
  no : more = false → M = M0 ∧ Cls A M p
  yes : more = true → cntMk M0 < cntMk M
theorem RI.start {A : Ar} {ks : List Int} {M : List Bool} (h1 : M.length = A.length + 2) (h2 : Sou A ks M) (h3 : Roo A ks M) : RI A ks M 2 M false :=
  ⟨h1, h2, h3, fun _ => ⟨rfl, fun x n hx => by omega⟩, fun h => by cases h⟩
theorem RI.skip {A : Ar} {ks : List Int} {M0 M : List Bool} {p : Nat} {more : Bool} (h : RI A ks M0 p M more) (hp : mb M p = false) : RI A ks M0 (p + 1) M more :=
  ⟨h.len, h.sou, h.roo, fun hm => ⟨(h.no hm).1, fun x n hx hs hb => by
    by_cases hxp : x + 2 = p
    · rw [hxp] at hb; rw [hp] at hb; cases hb
    · exact (h.no hm).2 x n (by omega) hs hb⟩, h.yes⟩
theorem RI.step {A : Ar} {ks : List Int} {M0 M : List Bool} {more : Bool} {x : Nat} {n : Nd} (hA : ArInv A) (h : RI A ks M0 (x + 2) M more) (hp : mb M (x + 2) = true) (hs : slot A x = some n) :
    RI A ks M0 (x + 3) (umk (umk M n.lo) n.hi) ((more || (decide (1 < n.lo) && !mb M n.lo)) || (decide (1 < n.hi) && !mb M n.hi)) := by
  have hv := hA.lev x n hs
  have hlo : n.lo < M.length := by
    rw [h.len]
    rcases lvlA_node (A := A) (id := n.lo) (by omega) with e | e | ⟨i, m, e, hi, _⟩
    · omega
    · omega
    · have := slot_lt hi; omega
  have hhi : n.hi < M.length := by
    rw [h.len]
    rcases lvlA_node (A := A) (id := n.hi) (by omega) with e | e | ⟨i, m, e, hi, _⟩
    · omega
    · omega
    · have := slot_lt hi; omega
  have hhi' : n.hi < (umk M n.lo).length := by rw [umk_length]; exact hhi
  have c1 := cntMk_umk hlo
  have c2 := cntMk_umk hhi'
  have hm : ∀ i, mb (umk (umk M n.lo) n.hi) i = ((mb M i || (decide (i = n.lo) && decide (1 < n.lo))) || (decide (i = n.hi) && decide (1 < n.hi))) := fun i => by rw [mb_umk hhi', mb_umk hlo]
  obtain ⟨x', hx', k, hk, hr⟩ := h.sou _ hp
  have hxx : x' = x := by omega
  subst hxx
  refine ⟨by rw [umk_length, umk_length]; exact h.len, fun j hj => ?_, fun k hk h2 h3 => ?_, fun hf => ?_, fun ht => ?_⟩
  · rw [hm, Bool.or_eq_true, Bool.or_eq_true] at hj
    rcases hj with (hj | hj) | hj
    · exact h.sou j hj
    · simp at hj
      obtain ⟨rfl, h1⟩ := hj
      rcases lvlA_node (A := A) (id := n.lo) (by omega) with e | e | ⟨i, m, e, hi, _⟩
      · omega
      · omega
      · exact ⟨i, by omega, k, hk, hr.trans (.lo hs (by rw [e]; exact .self hi))⟩
    · simp at hj
      obtain ⟨rfl, h1⟩ := hj
      rcases lvlA_node (A := A) (id := n.hi) (by omega) with e | e | ⟨i, m, e, hi, _⟩
      · omega
      · omega
      · exact ⟨i, by omega, k, hk, hr.trans (.hi hs (by rw [e]; exact .self hi))⟩
  · rw [hm, h.roo k hk h2 h3]; rfl
  · simp only [Bool.or_eq_false_iff, Bool.and_eq_false_iff, decide_eq_false_iff_not, Bool.not_eq_false'] at hf
    obtain ⟨⟨hmo, h1⟩, h2⟩ := hf
    have e1 : umk M n.lo = M := umk_same hlo fun hh => by rcases h1 with h | h; · exact absurd hh h
                                                          · exact h
    have e2 : umk M n.hi = M := umk_same hhi fun hh => by rcases h2 with h | h; · exact absurd hh h
                                                          · exact h
    rw [e1, e2]
    obtain ⟨q1, q2⟩ := h.no hmo
    refine ⟨q1, fun y m hy hsy hb => ?_⟩
    by_cases hyx : y = x'
    · subst hyx
      rw [hs] at hsy
      injection hsy with hsy
      subst hsy
      exact ⟨fun hh => by rcases h1 with h | h; · exact absurd hh h
                          · exact h, fun hh => by rcases h2 with h | h; · exact absurd hh h
                                                  · exact h⟩
    · exact q2 y m (by omega) hsy hb
  · have hge : cntMk M0 ≤ cntMk M := by
      cases hmo : more with
      | false => rw [(h.no hmo).1]; exact Nat.le_refl _
      | true => have := h.yes hmo; omega
    simp only [Bool.or_eq_true, Bool.and_eq_true, decide_eq_true_eq, Bool.not_eq_true'] at ht
    rcases ht with (ht | ht) | ht
    · have := h.yes ht; omega
    · rw [if_pos ht] at c1; omega
    · by_cases hq : 1 < n.lo ∧ mb M n.lo = false
      · rw [if_pos hq] at c1; omega
      · have : mb (umk M n.lo) n.hi = false := by
          rw [mb_umk hlo, ht.2, Bool.false_or, Bool.and_eq_false_iff]
          by_cases he : n.hi = n.lo
          · rw [he] at ht; exact absurd ht hq
          · left; simp [he]
        rw [if_pos ⟨ht.1, this⟩] at c2; omega
theorem cls_rch {A : Ar} {M : List Bool} (hc : ∀ x n, slot A x = some n → mb M (x + 2) = true → (1 < n.lo → mb M n.lo = true) ∧ (1 < n.hi → mb M n.hi = true)) :
    ∀ {id : Int} {x : Nat}, Rch A id x → mb M id.toNat = true → mb M (x + 2) = true := by
  intro id x h
  induction h with
  | self hs => intro hm; exact hm
  | @lo i y n hs hr ih =>
    intro hm
    have hm' : mb M (i + 2) = true := hm
    have hst := hr.start
    obtain ⟨j, m, e, _⟩ := hst
    exact ih ((hc i n hs hm').1 (by omega))
  | @hi i y n hs hr ih =>
    intro hm
    have hm' : mb M (i + 2) = true := hm
    have hst := hr.start
    obtain ⟨j, m, e, _⟩ := hst
    exact ih ((hc i n hs hm').2 (by omega))
theorem RI.done {A : Ar} {ks : List Int} {M : List Bool} (h2 : Sou A ks M) (h3 : Roo A ks M) (hc : Cls A M (A.length + 2)) (x : Nat) : mb M (x + 2) = true ↔ ∃ k ∈ ks, Rch A k x := by
  constructor
  · intro h
    obtain ⟨y, e, hy⟩ := h2 _ h
    have : y = x := by omega
    subst this; exact hy
  · rintro ⟨k, hk, hr⟩
    obtain ⟨i, n, e, hs⟩ := hr.start
    refine cls_rch (fun x n hs => hc x n (by have := slot_lt hs; omega) hs) hr (h3 k hk (by omega) ?_)
    rw [e, lvlA_slot hs]; omega
end Go.Dk

namespace Go.Proofs.Ytjebpngdinbckaa
open Go.Dk
attribute [local irreducible] IntKind.wrap
theorem bls_mb {M : List Bool} {j : Nat} (h : j < M.length) : (bls M)[j]? = some (.bool (mb M j)) := bls_getD h
theorem roo_take {A : Ar} {ks : List Int} {M : List Bool} {i : Nat} {k : Int} (h : Roo A (ks.take i) M) (hk : ks[i]? = some k) (h2 : 2 ≤ k → 0 ≤ lvlA A k → mb M k.toNat = true) : Roo A (ks.take (i + 1)) M := by
  intro k' hk' h3 h4
  rw [List.take_add_one, hk] at hk'
  rcases List.mem_append.1 hk' with h' | h'
  · exact h k' h' h3 h4
  · simp at h'; subst h'; exact h2 h3 h4
theorem sou_nil (A : Ar) (ks : List Int) (n : Nat) : Sou A ks (List.replicate n false) := by
  intro j hj; rw [mb_replicate] at hj; cases hj
theorem roo_nil (A : Ar) (M : List Bool) : Roo A [] M := by
  intro k hk; cases hk
theorem sou_put {A : Ar} {ks : List Int} {M : List Bool} (h : Sou A ks M) {j : Nat} (hj : j < M.length) (h2 : 2 ≤ j) (hk : (j : Int) ∈ ks) (hv : 0 ≤ lvlA A j) : Sou A ks (M.set j true) := by
  intro i hi
  rw [mb_put hj] at hi
  split at hi
  · rename_i e
    subst e
    rcases lvlA_node hv with e | e | ⟨x, n, e, hs, _⟩
    · omega
    · omega
    · exact ⟨x, by omega, _, hk, by rw [e]; exact .self hs⟩
  · exact h i hi
theorem roo_put {A : Ar} {ks : List Int} {M : List Bool} (h : Roo A ks M) {j : Nat} (hj : j < M.length) : Roo A ks (M.set j true) := by
  intro k hk h2 h3
  rw [mb_put hj, h k hk h2 h3]; simp
theorem umk_t {M : List Bool} {j : Nat} (h : mb M j = true) : umk M j = M.set j true := by unfold umk; rw [h]; rfl
theorem umk_f {M : List Bool} {j : Nat} (h : mb M j = false) : umk M j = M.set j (decide ((j : Int) > 1)) := by
  unfold umk; rw [h, Bool.false_or]; congr 1; exact decide_eq_decide.2 (by omega)
theorem ent73 : enters Try.prog 73 = true := by kernel_rfl
theorem c73 (room : Int) (N : List RN) (B : Option Addr) (c : Nat) (ks : List Int) (Bk : Option Addr) (ck : Nat) (w : World) (hl : N.length ≤ 100000) (hkl : ks.length ≤ 100000) (hs : Sl w (.slice B N.length c) 4 N.length (flat encN N))
    (hsk : Sl w (.slice Bk ks.length ck) 1 ks.length (intsI ks)) (hA : ArInv (ab N)) :
    Fun Try.prog 73 [rv room (.slice B N.length c), .slice Bk ks.length ck] w fun v w' =>
      ∃ g M, v = .slice (some ⟨g, 0, none⟩) (N.length + 2) (N.length + 2) ∧ M.length = N.length + 2 ∧ (∀ x, mb M (x + 2) = true ↔ ∃ k ∈ ks, Rch (ab N) k x) ∧
        NewR w w' (own 4 1 (.slice (some ⟨g, 0, none⟩) (N.length + 2) (N.length + 2)) (N.length + 2) (bls M)) := by
  refine fun_of_W (N := 114) Try.func73 ent73 rfl rfl rfl (by simp) ?_
  have H := Hp.start0 w
  refine H.box 64 (rv _ _) (cs := rc _ _) rfl ?_
  clear H
  intro g1 w1 H
  refine cut_rule (γ := Nat) _ rfl (fun g => [(5, .slice (some ⟨g, 0, none⟩) (N.length + 2) (N.length + 2))])
    (fun g w' => Hp w (fun _ => False) w' [own 4 1 (.slice (some ⟨g, 0, none⟩) (N.length + 2) (N.length + 2)) (N.length + 2) (bls (List.replicate (N.length + 2) false)), blk g1 64 (rc room (.slice B N.length c))] []) ?_ ?_
  · refine fieldAddr_by (fa64_1 _) ?_
    refine H.load 0 rfl agg62 rfl ?_
    refine len_sl Try.underlying62 ?_
    refine H.make T29 (N.length + 2) (wlen2 (by omega)) (wlen2 (by omega)) (by omega) (by omega) ?_
    clear H
    intro g2 w2 H
    rw [madeBool, show List.replicate (N.length + 2) (Value.bool false) = bls (List.replicate (N.length + 2) false) from List.map_replicate.symm] at H
    exact ⟨g2, ⟨rfl, trivial⟩, H⟩
  · clear H
    rintro g2 u w2 H
    replace H : Hp _ _ _ _ _ := H
    refine cut_rule (γ := List Bool) _ rfl (fun _ => [])
      (fun M w' => (M.length = N.length + 2 ∧ Sou (ab N) ks M ∧ Roo (ab N) ks M) ∧ Hp w (fun _ => False) w' [own 4 1 (.slice (some ⟨g2, 0, none⟩) (N.length + 2) (N.length + 2)) (N.length + 2) (bls M), blk g1 64 (rc room (.slice B N.length c))] []) ?_ ?_
    · refine loop_rule (γ := Nat × List Bool) _ rfl (fun (i, _) => [(6, .int .i64 (i : Int))])
        (fun (i, M) w' => (i ≤ ks.length ∧ M.length = N.length + 2 ∧ Sou (ab N) ks M ∧ Roo (ab N) (ks.take i) M) ∧ Hp w (fun _ => False) w' [own 4 1 (.slice (some ⟨g2, 0, none⟩) (N.length + 2) (N.length + 2)) (N.length + 2) (bls M), blk g1 64 (rc room (.slice B N.length c))] [])
        (fun (i, _) => ks.length - i) (0, List.replicate (N.length + 2) false) ⟨rfl, trivial⟩ ⟨⟨Nat.zero_le _, List.length_replicate, sou_nil _ _ _, roo_nil _ _⟩, H⟩ ?_
      clear H
      rintro ⟨i, M⟩ u w3 ⟨⟨hi, hM, hS, hR⟩, H⟩
      refine len_sl Try.underlying32 ?_
      refine cond_dec (fun h7 => ?_) (fun h7 => ?_)
      · obtain ⟨k, hk⟩ : ∃ k, ks[i]? = some k := ⟨_, List.getElem?_eq_getElem (by omega)⟩
        have hkm := List.mem_of_getElem? hk
        obtain ⟨g4, o4, rfl⟩ := hsk.A (by omega)
        have hget : (intsI ks)[i]? = some (.int .i64 k) := by rw [intsI, List.getElem?_map, hk]; rfl
        refine cut_rule (γ := List Bool) _ rfl (fun _ => []) (fun M w' => (M.length = N.length + 2 ∧ Sou (ab N) ks M ∧ Roo (ab N) (ks.take (i + 1)) M) ∧ Hp w (fun _ => False) w' [own 4 1 (.slice (some ⟨g2, 0, none⟩) (N.length + 2) (N.length + 2)) (N.length + 2) (bls M), blk g1 64 (rc room (.slice B N.length c))] []) ?_ ?_
        · refine H.draw fol (by kernel_rfl) ?_
          clear H
          intro w5 H
          refine quiet _ (fun w H => idxAddr_sl Try.underlying32 (s := 1) (by kernel_rfl) _ rfl (by first | omega | decide | (simp only [IntKind.wrap_i64]; omega) | (rw [bls, List.length_map]; omega) | (rw [bytesV_length]; omega) | (rw [ints_length]; omega) | (simp; done) | (simp; omega)) (o' := _) (by rw [Nat.mul_one]) ⟨rfl, rfl⟩) ?_
          refine quiet _ (fun w H => H.loadSl (i := i) hsk agg3 _ rfl hget ⟨rfl, rfl⟩) ?_
          refine cond_dec (fun h8 => ?_) (fun h8 => ?_)
          · refine quiet _ (fun w H => H.loadAll 1 rfl agg64 size64 ⟨rfl, rfl⟩) ?_
            iterate 3 refine cond_yes (decide_eq_true (by assumption)) ?_
            refine quiet _ (fun w H => idxAddr_sl Try.underlying32 (s := 1) (by kernel_rfl) _ rfl (by first | omega | decide | (simp only [IntKind.wrap_i64]; omega) | (rw [bls, List.length_map]; omega) | (rw [bytesV_length]; omega) | (rw [ints_length]; omega) | (simp; done) | (simp; omega)) (o' := _) (by rw [Nat.mul_one]) ⟨rfl, rfl⟩) ?_
            refine cond_yes (decide_eq_true (by assumption)) ?_
            refine quiet _ (fun w H => H.loadSl (i := i) hsk agg3 _ rfl hget ⟨rfl, rfl⟩) ?_
            refine cond_yes (decide_eq_true (by assumption)) ?_
            refine call_fn (c167 room N _ c k _ (by omega) (hs.same H.keeps)) ?_ 
            rintro _ w17 ⟨rfl, hk17⟩ 
            replace H := H.same hk17 
            refine ⟨.inl H, ?_⟩
            iterate 2 refine cond_yes (decide_eq_true (by assumption)) ?_
            refine cond_dec (fun h20 => ?_) (fun h20 => ?_)
            · refine idxAddr_sl Try.underlying32 (s := 1) size3 i rfl (by omega) (o' := o4 + i) (by omega) ?_
              refine H.loadSl (i := i) hsk agg3 _ rfl hget ?_
              obtain ⟨j, rfl⟩ : ∃ j : Nat, k = (j : Int) := ⟨k.toNat, by omega⟩
              have hjl := lvlA_range (A := ab N) (id := (j : Int)) (by omega)
              rw [ab_length] at hjl
              refine idxAddr_sl Try.underlying29 (s := 1) size4 j rfl (by omega) (o' := j) (by omega) ?_
              refine H.storeOwn 0 rfl size4 (by rw [bls, List.length_map, hM]; omega) rfl ?_
              clear H
              intro w21 H
              rw [← bls_set] at H
              exact ⟨M.set j true, trivial, ⟨by rw [List.length_set]; exact hM, sou_put hS (by omega) (by omega) hkm (by omega), roo_take (roo_put hR (by omega)) hk fun _ _ => by rw [mb_put (by omega), if_pos (Int.toNat_natCast j)]⟩, H⟩
            · exact ⟨M, trivial, ⟨hM, hS, roo_take hR hk fun _ h => absurd h h20⟩, H⟩
          · refine cond_no (decide_eq_false (by assumption)) ?_
            iterate 6 refine cond_no (decide_eq_false (by assumption)) ?_
            refine cond_no rfl ?_
            exact ⟨M, trivial, ⟨hM, hS, roo_take hR hk fun h _ => absurd h h8⟩, H⟩
        · clear H
          rintro M1 u w4 ⟨⟨hM, hS, hR⟩, H⟩
          replace H : Hp _ _ _ _ _ := H
          exact ⟨(i + 1, M1), by show ks.length - (i + 1) < ks.length - i; omega, ⟨up (by omega), trivial⟩, ⟨by show i + 1 ≤ _; omega, hM, hS, hR⟩, H⟩
      · have : i = ks.length := by omega
        subst this
        rw [List.take_length] at hR
        exact ⟨M, trivial, ⟨hM, hS, hR⟩, H⟩
    · clear H
      rintro M u w3 ⟨⟨hM, hS, hR⟩, H⟩
      replace H : Hp _ _ _ _ _ := H
      refine cut_rule (γ := Unit) _ rfl (fun _ => [(7, .bool true)]) (fun _ w' => Hp.cl H w') ⟨(), ⟨rfl, trivial⟩, H⟩ ?_
      rintro ⟨⟩ u1 w4 H1
      replace H : Hp _ _ _ _ _ := H1
      clear H1
      refine cut_rule (γ := List Bool) _ rfl (fun _ => []) (fun M w' => (M.length = N.length + 2 ∧ Sou (ab N) ks M ∧ Roo (ab N) ks M ∧ Cls (ab N) M ((ab N).length + 2)) ∧ Hp w (fun _ => False) w' [own 4 1 (.slice (some ⟨g2, 0, none⟩) (N.length + 2) (N.length + 2)) (N.length + 2) (bls M), blk g1 64 (rc room (.slice B N.length c))] []) ?_ ?_
      · refine loop_rule (γ := Bool × List Bool) _ rfl (fun (more, _) => [(7, .bool more)])
          (fun (more, M) w' => (M.length = N.length + 2 ∧ Sou (ab N) ks M ∧ Roo (ab N) ks M ∧ (more = false → Cls (ab N) M ((ab N).length + 2))) ∧ Hp w (fun _ => False) w' [own 4 1 (.slice (some ⟨g2, 0, none⟩) (N.length + 2) (N.length + 2)) (N.length + 2) (bls M), blk g1 64 (rc room (.slice B N.length c))] [])
          (fun (more, M) => if more then N.length + 3 - cntMk M else 0) (true, M) ⟨rfl, trivial⟩ ⟨⟨hM, hS, hR, fun h => by cases h⟩, H⟩ ?_
        clear H hM hS hR
        rintro ⟨more, M0⟩ u w5 ⟨⟨hM, hS, hR, hC⟩, H⟩
        replace H : Hp _ _ _ _ _ := H
        cases more with
        | false => refine cond_no rfl ?_
                   exact ⟨M0, trivial, ⟨hM, hS, hR, hC rfl⟩, H⟩
        | true =>
          refine cond_yes rfl ?_
          refine cut_rule (γ := Unit) _ rfl (fun _ => [(7, .bool false)]) (fun _ w' => Hp.cl H w') ⟨(), ⟨rfl, trivial⟩, H⟩ ?_
          rintro ⟨⟩ u1 w6 H1
          replace H : Hp _ _ _ _ _ := H1
          clear H1
          refine loop_rule (γ := Nat × List Bool × Bool) _ rfl (fun (p, _, more) => [(8, .int .i64 (p : Int)), (7, .bool more)])
            (fun (p, M, more) w' => (2 ≤ p ∧ p ≤ N.length + 2 ∧ RI (ab N) ks M0 p M more) ∧ Hp w (fun _ => False) w' [own 4 1 (.slice (some ⟨g2, 0, none⟩) (N.length + 2) (N.length + 2)) (N.length + 2) (bls M), blk g1 64 (rc room (.slice B N.length c))] [])
            (fun (p, _, _) => N.length + 2 - p) (2, M0, false) ⟨rfl, rfl, trivial⟩ ⟨⟨Nat.le_refl _, by show 2 ≤ N.length + 2; omega, .start (by rw [ab_length]; exact hM) hS hR⟩, H⟩ ?_
          clear H
          rintro ⟨p, M, more⟩ u w7 ⟨⟨h2p, hp, hI⟩, H⟩
          replace H : Hp _ _ _ _ _ := H
          have hMl : M.length = N.length + 2 := by rw [hI.len, ab_length]
          refine len_sl Try.underlying29 ?_
          refine cond_dec (fun h7 => ?_) (fun h7 => ?_)
          · have hp' : p < N.length + 2 := by omega
            refine idxAddr_sl Try.underlying29 (s := 1) size4 p rfl hp' (o' := p) (by omega) ?_
            refine H.loadOwn 0 rfl agg4 (bls_mb (by omega)) ?_
            refine cond_split (fun hpm => ?_) (fun hpm => ?_)
            · obtain ⟨x, rfl, k, hk, hr⟩ := hI.sou p hpm
              obtain ⟨n, hsx⟩ := hr.slot
              obtain ⟨⟨m, d⟩, hx⟩ : ∃ y, N[x]? = some y := ⟨_, List.getElem?_eq_getElem (by omega)⟩
              have hd : d = false ∧ m = n := by
                have := slot_ab hx
                rw [hsx] at this
                cases d
                · simp at this; exact ⟨rfl, this.symm⟩
                · simp at this
              obtain ⟨rfl, rfl⟩ := hd
              have hv := hA.lev x m hsx
              have hlo := lvlA_range (A := ab N) (id := m.lo) (by omega)
              have hhi := lvlA_range (A := ab N) (id := m.hi) (by omega)
              rw [ab_length] at hlo hhi
              have hst := hI.step hA hpm hsx
              obtain ⟨g0, o0, rfl⟩ := hs.A (by omega)
              refine cut_rule (γ := Nat) _ rfl (fun g9 => [(9, .pointer (some ⟨g9, 0, none⟩))]) (fun g9 w' => Hp w (fun _ => False) w' [blk g9 78 (encN (m, false)).toArray, own 4 1 (.slice (some ⟨g2, 0, none⟩) (N.length + 2) (N.length + 2)) (N.length + 2) (bls M), blk g1 64 (rc room (.slice (some ⟨g0, o0, none⟩) N.length c))] []) ?_ ?_
              · refine fieldAddr_by (fa64_1 _) ?_
                refine H.load 1 rfl agg62 rfl ?_
                refine idxAddr_sl Try.underlying62 (s := 4) size78 x (wsub2 (i := x) (by omega)) (by omega) (o' := o0 + x * 4) rfl ?_
                refine Sl.loadAgg H hs encN_length agg78 size78 x rfl hx ?_
                refine H.alloc 78 zero78 rfl ?_
                clear H
                intro g9 w8 H
                refine H.storeAll 0 rfl size78 rfl (fun v hv => encN_one (m, false) v hv) ?_
                clear H
                intro w9 H
                exact ⟨g9, ⟨rfl, trivial⟩, H⟩
              · clear H
                rintro g9 u w8 H
                replace H : Hp _ _ _ _ _ := H
                have hlo' : m.lo < M.length := by omega
                have hhi' : m.hi < M.length := by omega
                refine cut_rule (γ := Unit) _ rfl (fun _ => [(7, .bool ((more || (decide (1 < m.lo) && !mb M m.lo)) || (decide (1 < m.hi) && !mb M m.hi)))]) (fun _ w' => Hp.cl H w') ?_ ?_
                · refine cond_split (fun h10 => ?_) (fun h10 => ?_)
                  · refine cond_yes (by assumption) ?_
                    iterate 4 refine cond_yes (by assumption) ?_
                    iterate 6 refine cond_yes rfl ?_
                    exact ⟨(), ⟨congrArg Value.bool (by rw [h10]; rfl), trivial⟩, H⟩
                  · refine fieldAddr_by (fa78_1 _) ?_
                    refine cond_no (by assumption) ?_
                    refine H.load 0 rfl agg3 rfl ?_
                    iterate 2 refine cond_no (by assumption) ?_
                    refine cond_dec (fun h28 => ?_) (fun h28 => ?_)
                    · refine cond_yes (decide_eq_true (by assumption)) ?_
                      refine fieldAddr_by (fa78_1 _) ?_
                      refine cond_yes (decide_eq_true (by assumption)) ?_
                      refine H.load 0 rfl agg3 rfl ?_
                      refine cond_yes (decide_eq_true (by assumption)) ?_
                      refine idxAddr_sl Try.underlying29 (s := 1) size4 m.lo rfl (by omega) (o' := m.lo) (by omega) ?_
                      refine cond_yes (decide_eq_true (by assumption)) ?_
                      refine H.loadOwn 1 rfl agg4 (bls_mb hlo') ?_
                      refine cond_yes (decide_eq_true (by assumption)) ?_
                      refine cond_no (by assumption) ?_
                      refine cond_yes (decide_eq_true (by assumption)) ?_
                      refine cond_no (by assumption) ?_
                      refine cond_split (fun h41 => ?_) (fun h41 => ?_)
                      · refine cond_yes (by assumption) ?_
                        iterate 4 refine cond_yes (by assumption) ?_
                        have q28 : (1 < m.lo) := by have h : ((1 : Int) < (m.lo : Int)) := h28; omega
                        exact ⟨(), ⟨congrArg Value.bool (by rw [h10, decide_eq_true q28, h41]; rfl), trivial⟩, H⟩
                      · refine fieldAddr_by (fa78_2 _) ?_
                        refine cond_no (by assumption) ?_
                        refine H.load 0 rfl agg3 rfl ?_
                        iterate 2 refine cond_no (by assumption) ?_
                        refine cond_dec (fun h53 => ?_) (fun h53 => ?_)
                        · refine cond_yes (decide_eq_true (by assumption)) ?_
                          refine fieldAddr_by (fa78_2 _) ?_
                          refine cond_yes (decide_eq_true (by assumption)) ?_
                          refine H.load 0 rfl agg3 rfl ?_
                          refine cond_yes (decide_eq_true (by assumption)) ?_
                          refine idxAddr_sl Try.underlying29 (s := 1) size4 m.hi rfl (by omega) (o' := m.hi) (by omega) ?_
                          refine cond_yes (decide_eq_true (by assumption)) ?_
                          refine H.loadOwn 1 rfl agg4 (bls_mb hhi') ?_
                          refine cond_yes (decide_eq_true (by assumption)) ?_
                          refine cond_no (by assumption) ?_
                          refine cond_yes (decide_eq_true (by assumption)) ?_
                          refine cond_no (by assumption) ?_
                          have q28 : (1 < m.lo) := by have h : ((1 : Int) < (m.lo : Int)) := h28; omega
                          have q53 : (1 < m.hi) := by have h : ((1 : Int) < (m.hi : Int)) := h53; omega
                          exact ⟨(), ⟨congrArg Value.bool (by rw [h10, decide_eq_true q28, h41, decide_eq_true q53]; rfl), trivial⟩, H⟩
                        · refine cond_no (decide_eq_false (by assumption)) ?_
                          iterate 4 refine cond_no (decide_eq_false (by assumption)) ?_
                          refine cond_no (by assumption) ?_
                          refine cond_no (decide_eq_false (by assumption)) ?_
                          refine cond_no (by assumption) ?_
                          have q28 : (1 < m.lo) := by have h : ((1 : Int) < (m.lo : Int)) := h28; omega
                          have q53 : ¬ (1 < m.hi) := by have h : ¬ ((1 : Int) < (m.hi : Int)) := h53; omega
                          exact ⟨(), ⟨congrArg Value.bool (by rw [h10, decide_eq_true q28, h41, decide_eq_false q53]; rfl), trivial⟩, H⟩
                    · refine cond_no (decide_eq_false (by assumption)) ?_
                      iterate 4 refine cond_no (decide_eq_false (by assumption)) ?_
                      refine cond_no (by assumption) ?_
                      refine cond_no (decide_eq_false (by assumption)) ?_
                      refine cond_no (by assumption) ?_
                      refine cond_no rfl ?_
                      refine fieldAddr_by (fa78_2 _) ?_
                      refine cond_no rfl ?_
                      refine H.load 0 rfl agg3 rfl ?_
                      iterate 2 refine cond_no rfl ?_
                      refine cond_dec (fun h90 => ?_) (fun h90 => ?_)
                      · refine cond_yes (decide_eq_true (by assumption)) ?_
                        refine fieldAddr_by (fa78_2 _) ?_
                        refine cond_yes (decide_eq_true (by assumption)) ?_
                        refine H.load 0 rfl agg3 rfl ?_
                        refine cond_yes (decide_eq_true (by assumption)) ?_
                        refine idxAddr_sl Try.underlying29 (s := 1) size4 m.hi rfl (by omega) (o' := m.hi) (by omega) ?_
                        refine cond_yes (decide_eq_true (by assumption)) ?_
                        refine H.loadOwn 1 rfl agg4 (bls_mb hhi') ?_
                        refine cond_yes (decide_eq_true (by assumption)) ?_
                        refine cond_no rfl ?_
                        refine cond_yes (decide_eq_true (by assumption)) ?_
                        refine cond_no rfl ?_
                        have q28 : ¬ (1 < m.lo) := by have h : ¬ ((1 : Int) < (m.lo : Int)) := h28; omega
                        have q90 : (1 < m.hi) := by have h : ((1 : Int) < (m.hi : Int)) := h90; omega
                        exact ⟨(), ⟨congrArg Value.bool (by rw [h10, decide_eq_false q28, decide_eq_true q90]; rfl), trivial⟩, H⟩
                      · refine cond_no (decide_eq_false (by assumption)) ?_
                        iterate 4 refine cond_no (decide_eq_false (by assumption)) ?_
                        refine cond_no rfl ?_
                        refine cond_no (decide_eq_false (by assumption)) ?_
                        refine cond_no rfl ?_
                        have q28 : ¬ (1 < m.lo) := by have h : ¬ ((1 : Int) < (m.lo : Int)) := h28; omega
                        have q90 : ¬ (1 < m.hi) := by have h : ¬ ((1 : Int) < (m.hi : Int)) := h90; omega
                        exact ⟨(), ⟨congrArg Value.bool (by rw [h10, decide_eq_false q28, decide_eq_false q90]; rfl), trivial⟩, H⟩
                · rintro ⟨⟩ u w9 H1
                  replace H : Hp _ _ _ _ _ := H1
                  clear H1
                  refine cut_rule (γ := Unit) _ rfl (fun _ => []) (fun _ w' => Hp w (fun _ => False) w' [blk g9 78 (encN (m, false)).toArray, own 4 1 (.slice (some ⟨g2, 0, none⟩) (N.length + 2) (N.length + 2)) (N.length + 2) (bls (umk M m.lo)), blk g1 64 (rc room (.slice (some ⟨g0, o0, none⟩) N.length c))] []) ?_ ?_
                  · refine H.draw fol (by kernel_rfl) ?_
                    clear H
                    intro w10 H
                    refine quiet _ (fun w H => fieldAddr_by (fa78_1 _) ⟨rfl, rfl⟩) ?_
                    refine quiet _ (fun w H => H.load 0 rfl agg3 rfl ⟨rfl, rfl⟩) ?_
                    refine quiet _ (fun w H => fieldAddr_by (fa78_1 _) ⟨rfl, rfl⟩) ?_
                    refine quiet _ (fun w H => H.load 0 rfl agg3 rfl ⟨rfl, rfl⟩) ?_
                    refine quiet _ (fun w H => idxAddr_sl Try.underlying29 (s := 1) size4 m.lo rfl (by omega) (o' := m.lo) (by omega) ⟨rfl, rfl⟩) ?_
                    refine quiet _ (fun w H => H.loadOwn 1 rfl agg4 (bls_mb hlo') ⟨rfl, rfl⟩) ?_
                    refine cond_split (fun h17 => ?_) (fun h17 => ?_)
                    · refine cond_yes (by assumption) ?_
                      iterate 2 refine cond_yes (by assumption) ?_
                      refine quiet _ (fun w H => idxAddr_sl Try.underlying29 (s := 1) size4 m.lo rfl (by omega) (o' := m.lo) (by omega) ⟨rfl, rfl⟩) ?_
                      refine H.storeOwn 1 rfl size4 (by rw [bls, List.length_map]; exact hlo') rfl ?_ 
                      clear H 
                      intro w22 H 
                      refine ⟨.inr rfl, ?_⟩ 
                      rw [← bls_set] at H
                      exact ⟨(), trivial, by rw [umk_t (by assumption)]; exact H⟩
                    · refine quiet _ (fun w H => fieldAddr_by (fa78_1 _) ⟨rfl, rfl⟩) ?_
                      refine cond_no (by assumption) ?_
                      refine quiet _ (fun w H => H.load 0 rfl agg3 rfl ⟨rfl, rfl⟩) ?_
                      iterate 2 refine cond_no (by assumption) ?_
                      refine quiet _ (fun w H => idxAddr_sl Try.underlying29 (s := 1) size4 m.lo rfl (by omega) (o' := m.lo) (by omega) ⟨rfl, rfl⟩) ?_
                      refine H.storeOwn 1 rfl size4 (by rw [bls, List.length_map]; exact hlo') rfl ?_ 
                      clear H 
                      intro w30 H 
                      refine ⟨.inr rfl, ?_⟩ 
                      rw [← bls_set] at H
                      exact ⟨(), trivial, by rw [umk_f (by assumption)]; exact H⟩
                  · clear H
                    rintro ⟨⟩ u w10 H
                    replace H : Hp _ _ _ _ _ := H
                    have hhj : m.hi < (umk M m.lo).length := by rw [umk_length]; exact hhi'
                    refine H.draw fol (by kernel_rfl) ?_
                    clear H
                    intro w11 H
                    refine quiet _ (fun w H => fieldAddr_by (fa78_2 _) ⟨rfl, rfl⟩) ?_
                    refine quiet _ (fun w H => H.load 0 rfl agg3 rfl ⟨rfl, rfl⟩) ?_
                    refine quiet _ (fun w H => fieldAddr_by (fa78_2 _) ⟨rfl, rfl⟩) ?_
                    refine quiet _ (fun w H => H.load 0 rfl agg3 rfl ⟨rfl, rfl⟩) ?_
                    refine quiet _ (fun w H => idxAddr_sl Try.underlying29 (s := 1) size4 m.hi rfl (by omega) (o' := m.hi) (by omega) ⟨rfl, rfl⟩) ?_
                    refine quiet _ (fun w H => H.loadOwn 1 rfl agg4 (bls_mb hhj) ⟨rfl, rfl⟩) ?_
                    refine cond_split (fun h18 => ?_) (fun h18 => ?_)
                    · refine cond_yes (by assumption) ?_
                      iterate 2 refine cond_yes (by assumption) ?_
                      refine quiet _ (fun w H => idxAddr_sl Try.underlying29 (s := 1) size4 m.hi rfl (by omega) (o' := m.hi) (by omega) ⟨rfl, rfl⟩) ?_
                      refine H.storeOwn 1 rfl size4 (by rw [bls, List.length_map]; exact hhj) rfl ?_ 
                      clear H 
                      intro w23 H 
                      refine ⟨.inr rfl, ?_⟩ 
                      rw [← bls_set] at H
                      exact ⟨(x + 3, umk (umk M m.lo) m.hi, _), by show N.length + 2 - (x + 3) < N.length + 2 - (x + 2); omega, ⟨up (by omega), rfl, trivial⟩, ⟨by show 2 ≤ x + 3; omega, by show x + 3 ≤ N.length + 2; omega, hst⟩, by rw [umk_t (by assumption)]; exact H.forget⟩
                    · refine quiet _ (fun w H => fieldAddr_by (fa78_2 _) ⟨rfl, rfl⟩) ?_
                      refine cond_no (by assumption) ?_
                      refine quiet _ (fun w H => H.load 0 rfl agg3 rfl ⟨rfl, rfl⟩) ?_
                      iterate 2 refine cond_no (by assumption) ?_
                      refine quiet _ (fun w H => idxAddr_sl Try.underlying29 (s := 1) size4 m.hi rfl (by omega) (o' := m.hi) (by omega) ⟨rfl, rfl⟩) ?_
                      refine H.storeOwn 1 rfl size4 (by rw [bls, List.length_map]; exact hhj) rfl ?_ 
                      clear H 
                      intro w31 H 
                      refine ⟨.inr rfl, ?_⟩ 
                      rw [← bls_set] at H
                      exact ⟨(x + 3, umk (umk M m.lo) m.hi, _), by show N.length + 2 - (x + 3) < N.length + 2 - (x + 2); omega, ⟨up (by omega), rfl, trivial⟩, ⟨by show 2 ≤ x + 3; omega, by show x + 3 ≤ N.length + 2; omega, hst⟩, by rw [umk_f (by assumption)]; exact H.forget⟩
            · exact ⟨(p + 1, M, more), by show N.length + 2 - (p + 1) < N.length + 2 - p; omega, ⟨up (by omega), rfl, trivial⟩, ⟨by show 2 ≤ p + 1; omega, by show p + 1 ≤ N.length + 2; omega, hI.skip hpm⟩, H⟩
          · have hpe : p = (ab N).length + 2 := by rw [ab_length]; omega
            subst hpe
            refine ⟨(more, M), ?_, ⟨rfl, trivial⟩, ⟨by rw [hI.len, ab_length], hI.sou, hI.roo, fun hm => (hI.no hm).2⟩, H⟩
            show (if more = true then N.length + 3 - cntMk M else 0) < N.length + 3 - cntMk M0
            have h1 := cntMk_le M0
            have h2 := cntMk_le M
            have h3 : M.length = N.length + 2 := by rw [hI.len, ab_length]
            cases more with
            | false => rw [if_neg (by decide)]; omega
            | true => have := hI.yes rfl; rw [if_pos rfl]; omega
      · clear H
        rintro M u w5 ⟨⟨hM, hS, hR, hC⟩, H⟩
        replace H : Hp _ _ _ _ _ := H
        exact ⟨g2, M, rfl, hM, RI.done hS hR hC, H.out⟩
end Go.Proofs.Ytjebpngdinbckaa
end

section
/- The reference's arenas: Sweep. -/
namespace Go.Proofs.Ytjebpngdinbckaa
open Go.Dk
attribute [local irreducible] IntKind.wrap

/-- The nodes behind a sweep. -/
def swp (N : List RN) (M : List Bool) : List RN := N.mapIdx fun j x => (x.1, x.2 || !mb M (j + 2))
theorem swp_length (N : List RN) (M : List Bool) : (swp N M).length = N.length := List.length_mapIdx ..
theorem swp_snoc {N : List RN} {M : List Bool} {i : Nat} {x : RN} (h : N[i]? = some x) : swp (N.take (i + 1)) M = swp (N.take i) M ++ [(x.1, x.2 || !mb M (i + 2))] := by
  have hi := (List.getElem?_eq_some_iff.1 h).1
  unfold swp
  rw [List.take_add_one, h, Option.toList_some, List.mapIdx_concat, List.length_take, Nat.min_eq_left (by omega)]
theorem slots_eq {A C : Ar} (hl : A.length = C.length) (h : ∀ i n, slot A i = some n ↔ slot C i = some n) : A = C := by
  apply List.ext_getElem?
  intro i
  by_cases hi : i < A.length
  · rw [slot_get hi, slot_get (by omega), Option.ext (h i)]
  · rw [List.getElem?_eq_none (by omega), List.getElem?_eq_none (by omega)]
theorem ab_swp {N : List RN} {M : List Bool} {ks : List Int} (hA : ArInv (ab N)) (hM : ∀ x, mb M (x + 2) = true ↔ ∃ k ∈ ks, Rch (ab N) k x) : ab (swp N M) = sweepA (ab N) ks := by
  refine slots_eq (by rw [ab_length, swp_length, show (sweepA (ab N) ks).length = (ab N).length from sweepTo_length _ _ _, ab_length]) fun i n => ?_
  rw [slot_sweep hA, ← hM]
  by_cases hi : i < N.length
  · have hx : N[i]? = some N[i] := List.getElem?_eq_getElem hi
    have hy : (swp N M)[i]? = some (N[i].1, N[i].2 || !mb M (i + 2)) := by unfold swp; rw [List.getElem?_mapIdx, hx]; rfl
    rw [slot_ab hx, slot_ab hy]
    cases N[i].2 <;> cases mb M (i + 2) <;> simp
  · rw [slot_none (by rw [ab_length, swp_length]; omega), slot_none (by rw [ab_length]; omega)]
    simp
theorem ent67 : enters Try.prog 67 = true := by kernel_rfl
theorem c67 (room : Int) (N : List RN) (B : Option Addr) (c : Nat) (ks : List Int) (Bk : Option Addr) (ck : Nat) (w : World) (hl : N.length ≤ 100000) (hkl : ks.length ≤ 100000) (hs : Sl w (.slice B N.length c) 4 N.length (flat encN N))
    (hsk : Sl w (.slice Bk ks.length ck) 1 ks.length (intsI ks)) (hA : ArInv (ab N)) :
    Fun Try.prog 67 [rv room (.slice B N.length c), .slice Bk ks.length ck] w fun v w' =>
      ∃ N' B' c', ab N' = sweepA (ab N) ks ∧ v = rv room (.slice B' N'.length c') ∧ NewR w w' (own 78 4 (.slice B' N'.length c') N'.length (flat encN N')) := by
  refine fun_of_W (N := 45) Try.func67 ent67 rfl rfl rfl (by simp) ?_
  have H := Hp.start0 w
  refine H.box 64 (rv _ _) (cs := rc _ _) rfl ?_
  clear H
  intro g1 w1 H
  refine H.alloc 64 zero64 rfl ?_
  clear H
  intro g2 w2 H
  refine H.loadAll 1 rfl agg64 size64 ?_
  refine call_fn (c73 room N B c ks Bk ck _ hl hkl (hs.same H.keeps) (hsk.same H.keeps) hA) ?_
  rintro _ w3 ⟨g3, M, rfl, hMl, hM, hn⟩
  replace H := H.addNew hn
  clear hn
  refine cut_rule (γ := Nat) _ rfl (fun g4 => [(6, .pointer (some ⟨g4, 0, none⟩))]) (fun g4 w' => Hp w (fun _ => False) w' [blk g4 64 (rc room (.slice none 0 0)), own 4 1 (.slice (some ⟨g3, 0, none⟩) (N.length + 2) (N.length + 2)) (N.length + 2) (bls M), blk g2 64 (rv 0 (.slice none 0 0)).cells, blk g1 64 (rc room (.slice B N.length c))] []) ?_ ?_
  · refine fieldAddr_by (fa64_0 _) ?_
    refine H.load 2 rfl agg3 rfl ?_
    refine build64a ?_
    refine H.alloc 64 zero64 rfl ?_
    clear H
    intro g7 w7 H
    refine H.storeAll 0 rfl size64 rfl (fun v hv => rc_one v hv) ?_ 
    clear H 
    intro w8 H
    exact ⟨_, ⟨rfl, trivial⟩, H⟩
  · clear H
    rintro g4 u w4 H
    replace H : Hp _ _ _ _ _ := H
    replace H := (H.ownNil 78 4).front 1 rfl
    refine cut_rule (γ := Option Addr × Nat) _ rfl (fun _ => []) (fun (A, d) w' => Hp w (fun _ => False) w' [blk g4 64 (rc room (.slice A N.length d)), own 78 4 (.slice A N.length d) N.length (flat encN (swp N M)), own 4 1 (.slice (some ⟨g3, 0, none⟩) (N.length + 2) (N.length + 2)) (N.length + 2) (bls M), blk g2 64 (rv 0 (.slice none 0 0)).cells, blk g1 64 (rc room (.slice B N.length c))] []) ?_ ?_
    · refine loop_rule (γ := Nat × Option Addr × Nat) _ rfl (fun (i, _, _) => [(7, .int .i64 (i : Int))])
        (fun (i, A, d) w' => i ≤ N.length ∧ Hp w (fun _ => False) w' [blk g4 64 (rc room (.slice A i d)), own 78 4 (.slice A i d) i (flat encN (swp (N.take i) M)), own 4 1 (.slice (some ⟨g3, 0, none⟩) (N.length + 2) (N.length + 2)) (N.length + 2) (bls M), blk g2 64 (rv 0 (.slice none 0 0)).cells, blk g1 64 (rc room (.slice B N.length c))] [])
        (fun (i, _, _) => N.length - i) (0, none, 0) ⟨rfl, trivial⟩ ⟨Nat.zero_le _, H⟩ ?_
      clear H
      rintro ⟨i, A, d⟩ u w5 ⟨hi, H⟩
      replace H : Hp _ _ _ _ _ := H
      refine fieldAddr_by (fa64_1 _) ?_
      refine H.load 4 rfl agg62 rfl ?_
      refine len_sl Try.underlying62 ?_
      refine cond_dec (fun h7 => ?_) (fun h7 => ?_)
      · obtain ⟨x, hx⟩ : ∃ y, N[i]? = some y := ⟨_, List.getElem?_eq_getElem (by omega)⟩
        obtain ⟨g0, o0, rfl⟩ := hs.A (by omega)
        have hsn := swp_snoc (M := M) hx
        refine fieldAddr_by (fa64_1 _) ?_
        refine H.load 4 rfl agg62 rfl ?_
        refine idxAddr_sl Try.underlying62 (s := 4) size78 i rfl (by omega) (o' := o0 + i * 4) rfl ?_
        refine Sl.loadAgg H hs encN_length agg78 size78 i rfl hx ?_
        refine H.alloc 78 zero78 rfl ?_
        clear H
        intro g9 w8 H
        refine H.storeAll 0 rfl size78 rfl (fun v hv => encN_one x v hv) ?_
        clear H
        intro w9 H
        refine cut_rule (γ := Unit) _ rfl (fun _ => []) (fun _ w' => Hp w (fun _ => False) w' [blk g9 78 (encN (x.1, x.2 || !mb M (i + 2))).toArray, blk g4 64 (rc room (.slice A i d)), own 78 4 (.slice A i d) i (flat encN (swp (N.take i) M)), own 4 1 (.slice (some ⟨g3, 0, none⟩) (N.length + 2) (N.length + 2)) (N.length + 2) (bls M), blk g2 64 (rv 0 (.slice none 0 0)).cells, blk g1 64 (rc room (.slice (some ⟨g0, o0, none⟩) N.length c))] []) ?_ ?_
        · refine fieldAddr_by (fa78_3 _) ?_
          refine H.load 0 rfl agg4 rfl ?_
          refine cond_split (fun h11 => ?_) (fun h11 => ?_)
          · refine cond_yes (by assumption) ?_
            iterate 5 refine cond_yes (by assumption) ?_
            refine fieldAddr_by (fa78_3 _) ?_
            refine H.store 0 rfl size4 (by show 3 < 4; decide) rfl ?_ 
            clear H 
            intro w19 H
            exact ⟨(), trivial, by rw [h11, Bool.true_or]; exact H⟩
          · refine cond_no (by assumption) ?_
            iterate 2 refine cond_no (by assumption) ?_
            refine idxAddr_sl Try.underlying29 (s := 1) size4 (i + 2) (wlen2 (by omega)) (by omega) (o' := i + 2) (by omega) ?_
            refine cond_no (by assumption) ?_
            refine H.loadOwn 3 rfl agg4 (bls_mb (by omega)) ?_
            iterate 2 refine cond_no (by assumption) ?_
            refine fieldAddr_by (fa78_3 _) ?_
            refine H.store 0 rfl size4 (by show 3 < 4; decide) rfl ?_ 
            clear H 
            intro w30 H
            exact ⟨(), trivial, by rw [h11, Bool.false_or]; exact H⟩
        · clear H
          rintro ⟨⟩ u w7 H
          replace H : Hp _ _ _ _ _ := H
          refine fieldAddr_by (fa64_1 _) ?_
          refine H.load 1 rfl agg62 rfl ?_
          refine H.loadAll 0 rfl agg78 size78 ?_
          refine H.buildSl T62 (cs := (encN (x.1, x.2 || !mb M (i + 2))).toArray) (by decide) (by decide) (by kernel_rfl) ?_
          clear H
          intro g5 w9 H
          refine H.appendBlk 3 0 T62 rfl rfl rfl (encN_one _) (by omega) (by omega) ?_
          clear H
          intro A1 d1 w10 H
          refine fieldAddr_by (fa64_1 _) ?_
          refine H.store 2 rfl size62 (by show 1 < 2; decide) rfl ?_
          clear H
          intro w11 H
          exact ⟨(i + 1, A1, d1), by show N.length - (i + 1) < N.length - i; omega, ⟨up (by omega), trivial⟩, by show i + 1 ≤ N.length; omega, by rw [hsn, flat_snoc]; exact H.forget.forget⟩
      · have : i = N.length := by omega
        subst this
        rw [List.take_length] at H
        exact ⟨(A, d), trivial, H⟩
    · clear H
      rintro ⟨A, d⟩ u w5 H
      replace H : Hp _ _ _ _ _ := H
      refine H.loadAll 0 rfl agg64 size64 ?_
      refine H.storeAll 3 rfl size64 rfl (fun v hv => rc_one v hv) ?_ 
      clear H 
      intro w6 H
      refine H.loadAll 3 rfl agg64 size64 ?_
      refine ⟨rfl, ?_⟩
      exact ⟨swp N M, A, d, ab_swp hA hM, by rw [swp_length]; rfl, by rw [swp_length]; exact H.outAt 1 rfl⟩
end Go.Proofs.Ytjebpngdinbckaa
end

section
/- ArenaMakes. -/
namespace Go.Proofs.Ytjebpngdinbckaa
open Go.Dk
attribute [local irreducible] IntKind.wrap

theorem upj {j : Nat} (h : j ≤ 1000000) : Value.int .i64 (IntKind.i64.wrap ((j : Int) + 2 + 1)) = .int .i64 (((j + 1 : Nat) : Int) + 2) :=
  congrArg (Value.int .i64) (by rw [IntKind.wrap_i64]; omega)
theorem blk_Sl1 {w : World} {g : Nat} {t : TypeId} {v : Value} (h : (blk g t #[v]).ok w) (hg : g < w.heap.size) : Sl w (.slice (some ⟨g, 0, none⟩) 1 1) 1 1 [v] := by
  refine ⟨rfl, _, 1, rfl, Nat.le_refl _, .inr ⟨g, 0, rfl, hg, fun j hj => ?_⟩⟩
  obtain rfl : j = 0 := by omega
  rw [Nat.zero_add, blk_cell h]; rfl
theorem reach_spec {A : Ar} (h : ArInv A) (id : Int) (x : Nat) : mb (markA A 26 id (List.replicate A.length false)) x = true ↔ Rch A id x := by
  have hs := mark_spec h 26 id (List.replicate A.length false) (by have := lvlA_ge A id; omega) (by simp) (fun i n hi => by rw [mb_replicate] at hi; cases hi)
  rw [hs x, mb_replicate]; simp
theorem reachTo_pre (met : List Bool) (j : Nat) : ∀ n, j ≤ n → ∃ t, reachTo met n = reachTo met j ++ t := by
  intro n hn
  induction n with
  | zero => obtain rfl : j = 0 := by omega
            exact ⟨[], by simp⟩
  | succ n ih =>
    by_cases hj : j ≤ n
    · obtain ⟨t, ht⟩ := ih hj
      rw [reachTo_succ]
      split
      · exact ⟨t ++ [n + 2], by rw [ht, List.append_assoc]⟩
      · exact ⟨t, ht⟩
    · obtain rfl : j = n + 1 := by omega
      exact ⟨[], by simp⟩
theorem reach_at {met : List Bool} {j n : Nat} (h : j < n) (hm : mb met j = true) : (reachTo met n)[(reachTo met j).length]? = some (j + 2) := by
  obtain ⟨t, ht⟩ := reachTo_pre met (j + 1) n h
  rw [ht, reachTo_succ, if_pos hm, List.append_assoc, List.getElem?_append_right (Nat.le_refl _)]
  simp
theorem ent9 : enters Try.prog 9 = true := by kernel_rfl
theorem law9_b (room : Int) (hr : room < 0 ∨ 20000 < room) (v1 : Value) (id : Int) (w : World) : Fun Try.prog 9 [.int .i64 room, v1, .int .i64 id] w fun v w' => v = .bool true ∧ Same w w' := by
  refine fun_of_W (N := 213) Try.func9 ent9 rfl rfl rfl (by simp) ?_
  have H := Hp.start0 w
  refine call_fn (c64_b _ (by assumption) _) ?_
  rintro _ w1 ⟨rfl, hk⟩
  replace H := H.same hk
  clear hk
  refine cond_dec (fun h2 => ?_) (fun h2 => ?_)
  · refine cond_yes (decide_eq_true (by assumption)) ?_
    refine cond_yes (decide_eq_true (by assumption)) ?_
    refine cond_yes rfl ?_
    refine bin_eql59z ?_
    iterate 4 refine cond_yes rfl ?_
    refine call_fn (c65 _) ?_ 
    rintro _ w11 ⟨rfl, hk⟩ 
    replace H := H.same hk 
    clear hk
    refine cond_yes rfl ?_
    exact ⟨rfl, H.keeps⟩
  · refine cond_no (decide_eq_false (by assumption)) ?_
    refine cond_no (decide_eq_false (by assumption)) ?_
    refine cond_yes (decide_eq_true (by omega)) ?_
    refine bin_eql59z ?_
    iterate 4 refine cond_yes rfl ?_
    refine call_fn (c65 _) ?_ 
    rintro _ w22 ⟨rfl, hk⟩ 
    replace H := H.same hk 
    clear hk
    refine cond_yes rfl ?_
    exact ⟨rfl, H.keeps⟩
theorem agg66 : aggT Try.prog 66 = some true := by kernel_rfl
theorem agg32 : aggT Try.prog 32 = some false := by kernel_rfl
def z66 : Value := .agg #[.int .i64 0, .int .i64 0, .int .i64 0, .int .i64 0, .slice none 0 0]
theorem zero66 : zeroT Try.prog 66 = some z66 := by kernel_rfl
theorem encA_one {w : World} {a : AskV} (h : AskAt w a) : ∀ v ∈ encA a, v.oneCell' = true := by
  obtain ⟨_, _, _, _, ks, B, c, hv, _⟩ := h
  intro v hm
  simp [encA] at hm
  rcases hm with rfl | rfl | rfl | rfl | rfl
  · rfl
  · rfl
  · rfl
  · rfl
  · rw [hv]; rfl
theorem law9_m (room : Int) (h0 : 0 ≤ room) (h1 : room ≤ 20000) (la : List AskV) (B1 : Option Addr) (c1 : Nat) (id : Int) (hid : okI id) (w : World)
    (hla : ∀ a ∈ la, AskAt w a) (hs1 : Sl w (.slice B1 la.length c1) 5 la.length (flat encA la)) : Fun Try.prog 9 [.int .i64 room, .slice B1 la.length c1, .int .i64 id] w fun v w' => v = .bool true ∧ Same w w' := by
  refine fun_of_W (N := 213) Try.func9 ent9 rfl rfl rfl (by simp) ?_
  have H := Hp.start0 w
  refine call_fn (c64_a _ h0 h1 _) ?_
  rintro _ w2 ⟨g, r, rfl, hn⟩
  replace H := H.addNew hn
  clear hn
  repeat refine cond_no (decide_eq_false (by omega)) ?_
  refine bin_eql59 ?_
  repeat refine cond_no rfl ?_
  refine cut_rule (γ := Nat) _ rfl (fun g9 => [(9, .pointer (some ⟨g9, 0, none⟩))]) (fun g9 w' => Hp w (fun _ => False) w' [blk g9 64 (rc room (.slice none 0 0)), arR g r (.slice none 0 0) room []] []) ?_ ?_
  · refine build64a ?_
    refine H.alloc 64 zero64 rfl ?_
    clear H
    intro g4 w4 H
    refine H.storeAll 0 rfl size64 rfl (fun v hv => rc_one v hv) ?_ 
    clear H 
    intro w5 H
    exact ⟨_, ⟨rfl, trivial⟩, H⟩
  · clear H
    rintro g9 u w3 H
    replace H : Hp _ _ _ _ _ := H
    replace H := (H.ownNil 78 4).front 1 rfl
    refine cut_rule (γ := Value × List RN × Option Addr × Nat) _ rfl (fun _ => []) (fun (sv, N, B, c) w' => ArOk room (ab N) ∧ Hp w (fun _ => False) w' [blk g9 64 (rc room (.slice B N.length c)), own 78 4 (.slice B N.length c) N.length (flat encN N), arR g r sv room (ab N)] []) ?_ ?_
    · refine loop_rule (γ := Nat × Value × List RN × Option Addr × Nat) _ rfl (fun (i, _) => [(10, .int .i64 (i : Int))])
        (fun (i, sv, N, B, c) w' => (i ≤ 60 ∧ ArOk room (ab N)) ∧ Hp w (fun _ => False) w' [blk g9 64 (rc room (.slice B N.length c)), own 78 4 (.slice B N.length c) N.length (flat encN N), arR g r sv room (ab N)] []) (fun (i, _) => 60 - i) (0, .slice none 0 0, [], none, 0) ⟨rfl, trivial⟩ ⟨⟨Nat.zero_le _, ok_nil h0 h1⟩, H⟩ ?_
      clear H
      rintro ⟨i, sv, N, B, c⟩ u w4 ⟨⟨hi, hok⟩, H⟩
      replace H : Hp _ _ _ _ _ := H
      refine len_sl Try.underlying58 ?_
      by_cases hgo : i < la.length ∧ i < 60
      · obtain ⟨g1, o1, rfl⟩ := hs1.A (by omega)
        obtain ⟨a, ha⟩ : ∃ a, la[i]? = some a := ⟨_, List.getElem?_eq_getElem hgo.1⟩
        have haa := hla a (List.mem_of_getElem? ha)
        obtain ⟨kd, kl, klo, khi, ks, hks⟩ := hla a (List.mem_of_getElem? ha)
        obtain ⟨Bk, ck, hkv, hkl, hkk, hsk⟩ := hks
        obtain ⟨akd, al, alo, ahi, akv⟩ := a
        simp only at hkv kd kl klo khi
        subst hkv
        have hN2 : N.length ≤ 20000 := by have h3 := hok.len; have h4 := hok.room; rw [ab_length] at h3; omega
        iterate 4 refine cond_yes (decide_eq_true (by omega)) ?_
        refine idxAddr_sl Try.underlying58 size66 i rfl hgo.1 (o' := o1 + i * 5) rfl ?_
        refine Sl.loadAgg H hs1 encA_length agg66 size66 i rfl ha ?_
        refine H.alloc 66 zero66 rfl ?_
        clear H
        intro g11 w5 H
        refine H.storeAll 0 rfl size66 rfl (fun v hv => encA_one haa v hv) ?_
        clear H
        intro w6 H
        refine fieldAddr_by (fa66_4 _ _) ?_
        refine H.load 0 rfl agg32 rfl ?_
        refine len_sl Try.underlying32 ?_
        refine cond_dec (fun hk20 => ?_) (fun hk20 => ?_)
        · refine call_fn (c65 _) ?_ 
          rintro _ w7 ⟨rfl, hk⟩ 
          replace H := H.same hk 
          clear hk
          exact ⟨rfl, H.keeps⟩
        · refine cut_rule (γ := Value × List RN × Option Addr × Nat) _ rfl (fun _ => []) (fun (sv, N, B, c) w' => ArOk room (ab N) ∧ Hp w (fun _ => False) w' [blk g9 64 (rc room (.slice B N.length c)), own 78 4 (.slice B N.length c) N.length (flat encN N), arR g r sv room (ab N)] []) ?_ ?_
          · refine fieldAddr_by (fa66_0 _ _) ?_
            refine H.load 0 rfl agg3 rfl ?_
            refine cond_beq (fun h10 => ?_) (fun h10 => ?_)
            · refine fieldAddr_by (fa66_4 _ _) ?_
              refine H.load 0 rfl agg32 rfl ?_
              refine call_fn (c66 hok ks (fun k hk => (hkk k hk).2) (by omega) (S := fun x => x < w.heap.size) _ (H.get 3 rfl) ((sl _ _ _ _ _).stable w _ (fun x hx => H.keeps.old x hx (fun h => h)) hsk) (fun x hx => Nat.lt_of_lt_of_le hx H.keeps.size)
                (fun x hx hf => by rcases H.new _ (.tail _ (.tail _ (.tail _ (.head _)))) x hf with h | h; · omega
                                   · exact h)) ?_
              rintro _ w7 ⟨rfl, ht⟩
              replace H := H.turnBy 3 rfl ht
              clear ht
              refine H.loadAll 1 rfl agg64 size64 ?_
              refine fieldAddr_by (fa66_4 _ _) ?_
              refine H.load 0 rfl agg32 rfl ?_
              refine call_fn (c67 room N B c ks Bk ck _ (by omega) (by omega) (own_Sl (H.get 2 rfl)) (hsk.same H.keeps) hok.inv) ?_
              rintro _ w8 ⟨N', B', c', hab, rfl, hn⟩
              replace H := H.addNew hn
              clear hn
              refine H.storeAll 2 rfl size64 rfl (fun v hv => rc_one v hv) ?_
              clear H
              intro w9 H
              have hok' := ok_sweep hok ks
              rw [← hab] at hok' H
              exact ⟨(sv, N', B', c'), trivial, hok', ((H.front 3 rfl).forget.front 1 rfl).forget.front 1 rfl⟩
            · refine fieldAddr_by (fa66_1 _ _) ?_
              refine H.load 0 rfl agg3 rfl ?_
              refine fieldAddr_by (fa66_2 _ _) ?_
              refine H.load 0 rfl agg3 rfl ?_
              refine fieldAddr_by (fa66_3 _ _) ?_
              refine H.load 0 rfl agg3 rfl ?_
              refine call_fn (c68 al alo ahi kl.2 klo.2 khi.2 hok _ (H.get 3 rfl)) ?_
              rintro _ w7 ⟨sv1, rfl, ht⟩
              replace H := H.turnBy 3 rfl ht
              clear ht
              refine H.loadAll 1 rfl agg64 size64 ?_
              refine fieldAddr_by (fa66_1 _ _) ?_
              refine H.load 0 rfl agg3 rfl ?_
              refine fieldAddr_by (fa66_2 _ _) ?_
              refine H.load 0 rfl agg3 rfl ?_
              refine fieldAddr_by (fa66_3 _ _) ?_
              refine H.load 0 rfl agg3 rfl ?_
              refine call_fn (c69 room N B c al alo ahi _ (by omega) (own_Sl (H.get 2 rfl)) hok.inv) ?_
              rintro _ w8 ⟨N', B', c', hab, rfl, hn⟩
              have H' : Hp w (fun _ => False) w8 [blk g11 66 (encA ⟨akd, al, alo, ahi, .slice Bk ks.length ck⟩).toArray, blk g9 64 (rc room (.slice B N.length c)), own 78 4 (.slice B' N'.length c') N'.length (flat encN N'), arR g r sv1 room (mkA room (ab N) al alo ahi).1] [] := by
                rcases hn with ⟨rfl, rfl, rfl, hk⟩ | hn
                · exact H.same hk
                · exact ((((H.addNew hn).front 3 rfl).forget.front 2 rfl).front 2 rfl)
              replace H := H'
              clear H' hn
              have hok' := ok_mk hok al alo ahi
              rw [← hab] at hok' H
              refine H.alloc 64 zero64 rfl ?_ 
              clear H 
              intro g14 w9 H
              refine H.storeAll 0 rfl size64 rfl (fun v hv => rc_one v hv) ?_ 
              clear H 
              intro w10 H
              refine H.loadAll 0 rfl agg64 size64 ?_
              refine H.storeAll 2 rfl size64 rfl (fun v hv => rc_one v hv) ?_ 
              clear H 
              intro w11 H
              iterate 5 refine cond_no (bne_self_eq_false _) ?_
              exact ⟨(sv1, N', B', c'), trivial, hok', H.forget.forget⟩
          · clear H
            rintro ⟨sv, N, B, c⟩ u w7 ⟨hok, H⟩
            replace H : Hp _ _ _ _ _ := H
            have hN2 : N.length ≤ 20000 := by have h3 := hok.len; have h4 := hok.room; rw [ab_length] at h3; omega
            refine H.draw fol (by kernel_rfl) ?_
            clear H
            intro w8 H
            refine call_fn (c70 _ (H.get 2 rfl)) ?_ 
            rintro _ w10 ⟨rfl, hk10⟩ 
            replace H := H.same hk10 
            refine ⟨.inl H, ?_⟩
            refine quiet _ (fun w H => H.loadAll 0 rfl agg64 size64 ⟨rfl, rfl⟩) ?_
            refine call_fn (c71 room N B c _ (by omega) (own_Sl (H.get 1 rfl))) ?_ 
            rintro _ w13 ⟨rfl, hk13⟩ 
            replace H := H.same hk13 
            refine ⟨.inl H, ?_⟩
            iterate 2 refine cond_no (bne_self_eq_false _) ?_
            refine call_fn (c70 _ (H.get 2 rfl)) ?_ 
            rintro _ w16 ⟨rfl, hk16⟩ 
            replace H := H.same hk16 
            refine ⟨.inl H, ?_⟩
            iterate 3 refine cond_no (bne_self_eq_false _) ?_
            refine cond_dec (fun h20 => ?_) (fun h20 => ?_)
            · refine ⟨congrArg Value.bool ?_, H.keeps⟩
              have hlv : liveA (ab N) ≤ (ab N).length := List.countP_le_length
              have hlr := hok.len
              omega
            · exact ⟨(i + 1, sv, N, B, c), by show 60 - (i + 1) < 60 - i; omega, ⟨up (by omega), trivial⟩, ⟨by show i + 1 ≤ 60; omega, hok⟩, H⟩
      · refine cond_dec (fun h5 => ?_) (fun h5 => ?_)
        · refine cond_yes (decide_eq_true (by assumption)) ?_
          refine cond_yes (decide_eq_true (by assumption)) ?_
          refine cond_no (decide_eq_false (by omega)) ?_
          exact ⟨(sv, N, B, c), trivial, hok, H⟩
        · refine cond_no (decide_eq_false (by assumption)) ?_
          refine cond_no (decide_eq_false (by assumption)) ?_
          refine cond_no rfl ?_
          exact ⟨(sv, N, B, c), trivial, hok, H⟩
    · clear H
      rintro ⟨sv, N, B, c⟩ u w4 ⟨hok, H⟩
      replace H : Hp _ _ _ _ _ := H
      have hN2 : N.length ≤ 20000 := by have h3 := hok.len; have h4 := hok.room; rw [ab_length] at h3; omega
      refine cut_rule (γ := Unit) _ rfl (fun _ => []) (fun _ w' => Hp.cl H w') ?_ ?_
      · refine loop_rule (γ := Nat) _ rfl (fun j => [(17, .int .i64 ((j : Int) + 2))]) (fun j w' => j ≤ N.length ∧ Hp.cl H w') (fun j => N.length - j) 0 ⟨rfl, trivial⟩ ⟨Nat.zero_le _, H⟩ ?_
        rintro j u w5 ⟨hj, H1⟩
        replace H : Hp _ _ _ _ _ := H1
        refine fieldAddr_by (fa64_1 _) ?_
        refine H.load 0 rfl agg62 rfl ?_
        refine len_sl Try.underlying62 ?_
        have hw2 := wlen2 (n := N.length) (by omega)
        have hupj := upj (j := j) (by omega)
        by_cases hgo : j < N.length
        · refine cond_yes (decide_eq_true (by rw [hw2]; omega)) ?_
          obtain ⟨⟨m, d⟩, hx⟩ : ∃ y, N[j]? = some y := ⟨_, List.getElem?_eq_getElem hgo⟩
          have hsl := slot_ab hx
          obtain ⟨g6, rfl⟩ := H.ownA 1 rfl (by omega)
          cases d with
          | true =>
            replace hsl : slot (ab N) j = none := hsl
            refine call_fn (c72_b _ (by omega) (by unfold thereA; rw [show ((j : Int) + 2 - 2).toNat = j by omega, hsl]; simp) _ (H.get 2 rfl)) ?_
            rintro _ w6 ⟨rfl, hk⟩
            replace H := H.same hk
            clear hk
            refine fieldAddr_by (fa64_1 _) ?_
            refine H.load 0 rfl agg62 rfl ?_
            refine idxAddr_sl Try.underlying62 (s := 4) size78 j (wsub2 (by omega)) hgo (o' := j * 4) (by omega) ?_
            refine H.loadOwnAgg 1 rfl encN_length agg78 size78 j rfl hx ?_
            refine H.alloc 78 zero78 rfl ?_
            clear H
            intro g10 w10 H
            refine H.storeAll 0 rfl size78 rfl (fun v hv => encN_one (m, true) v hv) ?_
            clear H
            intro w11 H
            refine fieldAddr_by (fa78_3 _) ?_
            refine H.load 0 rfl agg4 rfl ?_
            refine bin_eql_bool Try.underlying4 ?_
            iterate 14 refine cond_no rfl ?_
            exact ⟨j + 1, by show N.length - (j + 1) < N.length - j; omega, ⟨hupj, trivial⟩, by show j + 1 ≤ N.length; omega, H.forget⟩
          | false =>
            replace hsl : slot (ab N) j = some m := hsl
            refine call_fn (c72_a j (by omega) m hsl _ (H.get 2 rfl)) ?_
            rintro _ w6 ⟨rfl, hk⟩
            replace H := H.same hk
            clear hk
            refine fieldAddr_by (fa64_1 _) ?_
            refine H.load 0 rfl agg62 rfl ?_
            refine idxAddr_sl Try.underlying62 (s := 4) size78 j (wsub2 (by omega)) hgo (o' := j * 4) (by omega) ?_
            refine H.loadOwnAgg 1 rfl encN_length agg78 size78 j rfl hx ?_
            refine H.alloc 78 zero78 rfl ?_
            clear H
            intro g10 w10 H
            refine H.storeAll 0 rfl size78 rfl (fun v hv => encN_one (m, false) v hv) ?_
            clear H
            intro w11 H
            refine fieldAddr_by (fa78_3 _) ?_
            refine H.load 0 rfl agg4 rfl ?_
            refine bin_eql_bool Try.underlying4 ?_
            iterate 2 refine cond_no rfl ?_
            iterate 2 refine cond_yes rfl ?_
            refine fieldAddr_by (fa78_0 _) ?_
            refine cond_yes rfl ?_
            refine H.load 0 rfl agg3 rfl ?_
            iterate 2 refine cond_yes rfl ?_
            iterate 2 refine cond_no (bne_self_eq_false _) ?_
            refine fieldAddr_by (fa78_1 _) ?_
            refine cond_no (bne_self_eq_false _) ?_
            refine H.load 0 rfl agg3 rfl ?_
            refine cond_no (bne_self_eq_false _) ?_
            refine cond_yes rfl ?_
            refine cond_no (bne_self_eq_false _) ?_
            refine cond_yes rfl ?_
            iterate 2 refine cond_no (bne_self_eq_false _) ?_
            refine fieldAddr_by (fa78_2 _) ?_
            refine cond_no (bne_self_eq_false _) ?_
            refine H.load 0 rfl agg3 rfl ?_
            refine cond_no (bne_self_eq_false _) ?_
            refine cond_yes rfl ?_
            refine cond_no (bne_self_eq_false _) ?_
            refine cond_no rfl ?_
            refine cond_yes rfl ?_
            refine cond_no rfl ?_
            refine cond_no (bne_self_eq_false _) ?_
            exact ⟨j + 1, by show N.length - (j + 1) < N.length - j; omega, ⟨hupj, trivial⟩, by show j + 1 ≤ N.length; omega, H.forget⟩
        · refine cond_no (decide_eq_false (by rw [hw2]; omega)) ?_
          exact ⟨(), trivial, H⟩
      · rintro ⟨⟩ u w5 H1
        replace H : Hp _ _ _ _ _ := H1
        clear H1
        refine H.loadAll 0 rfl agg64 size64 ?_
        refine H.buildOne T32 rfl ?_
        clear H
        intro g7 w7 H
        refine call_fn (c73 room N B c [id] (some ⟨g7, 0, none⟩) 1 _ (by omega) (by show 1 ≤ 100000; omega) (own_Sl (H.get 2 rfl)) (blk_Sl1 (H.get 0 rfl) (blk_lt (H.get 0 rfl))) hok.inv) ?_
        rintro _ w8 ⟨gm, M, rfl, hMl, hM, hn⟩
        replace H := H.addNew hn
        clear hn
        refine call_fn (c74 hok id hid.2 _ (H.get 4 rfl)) ?_
        rintro _ w9 ⟨Br, cr, rfl, hn⟩
        replace H := H.addNew hn
        clear hn
        have hmet : ∀ x, mb (markA (ab N) 26 id (List.replicate (ab N).length false)) x = mb M (x + 2) := fun x => by
          rw [Bool.eq_iff_iff, reach_spec hok.inv, hM]; simp
        have hrl : reachL (ab N) id = reachTo (markA (ab N) 26 id (List.replicate (ab N).length false)) N.length := by unfold reachL; rw [ab_length]
        rw [hrl] at H ⊢
        generalize markA (ab N) 26 id (List.replicate (ab N).length false) = met at H hmet hrl
        clear hrl
        have hrle : ∀ j, (reachTo met j).length ≤ j := fun j => reachTo_le _ _
        refine cut_rule (γ := Unit) _ rfl (fun _ => [(25, .int .i64 0)]) (fun _ w' => Hp.cl H w') ⟨(), ⟨rfl, trivial⟩, H⟩ ?_
        rintro ⟨⟩ u w10 H1
        replace H : Hp _ _ _ _ _ := H1
        clear H1
        refine cut_rule (γ := Unit) _ rfl (fun _ => [(25, .int .i64 ((reachTo met N.length).length : Int))]) (fun _ w' => Hp.cl H w') ?_ ?_
        · refine loop_rule (γ := Nat) _ rfl (fun j => [(26, .int .i64 ((j : Int) + 2)), (25, .int .i64 ((reachTo met j).length : Int))]) (fun j w' => j ≤ N.length ∧ Hp.cl H w') (fun j => N.length - j) 0 ⟨rfl, rfl, trivial⟩ ⟨Nat.zero_le _, H⟩ ?_
          rintro j u w11 ⟨hj, H1⟩
          replace H : Hp _ _ _ _ _ := H1
          refine len_sl Try.underlying29 ?_
          have hupj := upj (j := j) (by omega)
          have hrj := hrle j
          by_cases hgo : j < N.length
          · refine cond_yes (decide_eq_true (by omega)) ?_
            refine idxAddr_sl Try.underlying29 (s := 1) size4 (j + 2) (by omega) (by omega) (o' := j + 2) (by omega) ?_
            refine H.loadOwn 1 rfl agg4 (bls_mb (by omega)) ?_
            have hmj := hmet j
            refine cond_split (fun hb => ?_) (fun hb => ?_)
            · have hat := reach_at hgo (hmj.trans hb)
              have hlt := (List.getElem?_eq_some_iff.1 hat).1
              have hsuc := reachTo_succ met j
              rw [if_pos (hmj.trans hb)] at hsuc
              obtain ⟨gr, rfl⟩ := H.ownA 0 rfl (by omega)
              have hget : (ints (reachTo met N.length))[(reachTo met j).length]? = some (.int .i64 ((j : Int) + 2)) := by rw [ints, List.getElem?_map, hat]; rfl
              refine len_sl Try.underlying32 ?_
              iterate 3 refine cond_no (decide_eq_false (by omega)) ?_
              refine idxAddr_sl Try.underlying32 (s := 1) size3 (reachTo met j).length rfl hlt (o' := (reachTo met j).length) (by omega) ?_
              refine cond_no (decide_eq_false (by omega)) ?_
              refine H.loadOwn 0 rfl agg3 hget ?_
              iterate 3 refine cond_no (decide_eq_false (by omega)) ?_
              refine cond_no (bne_self_eq_false _) ?_
              exact ⟨j + 1, by show N.length - (j + 1) < N.length - j; omega, ⟨hupj, by rw [hsuc, List.length_append]; exact up (by omega), trivial⟩, by show j + 1 ≤ N.length; omega, H⟩
            · have hsuc := reachTo_succ met j
              rw [if_neg (by rw [hmj, hb]; decide)] at hsuc
              exact ⟨j + 1, by show N.length - (j + 1) < N.length - j; omega, ⟨hupj, by rw [hsuc]; rfl, trivial⟩, by show j + 1 ≤ N.length; omega, H⟩
          · obtain rfl : j = N.length := by omega
            refine cond_no (decide_eq_false (by omega)) ?_
            exact ⟨(), ⟨rfl, trivial⟩, H⟩
        · rintro ⟨⟩ u w11 H1
          replace H : Hp _ _ _ _ _ := H1
          clear H1
          refine len_sl Try.underlying32 ?_
          refine cond_yes (beq_self_eq_true _) ?_
          refine call_fn (c65 _) ?_ 
          rintro _ w13 ⟨rfl, hk13⟩ 
          replace H := H.same hk13
          refine cond_yes (beq_self_eq_true _) ?_
          exact ⟨rfl, H.keeps⟩
theorem law9 (room : Int) (v1 : Value) (id : Int) (hid : okI id) (la : List AskV) (w : World) (h1 : AsksAt w v1 la) : Fun Try.prog 9 [.int .i64 room, v1, .int .i64 id] w fun v w' => v = .bool true ∧ Same w w' := by
  rcases Int.lt_or_le room 0 with h0 | h0
  · exact law9_b room (.inl h0) v1 id w
  rcases Int.lt_or_le 20000 room with h3 | h3
  · exact law9_b room (.inr h3) v1 id w
  obtain ⟨B1, c1, rfl, hl1, hk1, hs1⟩ := h1
  exact law9_m room h0 h3 la B1 c1 id hid w hk1 hs1
end Go.Proofs.Ytjebpngdinbckaa
end

section
/- Maps whose values are slices of one's own; ranges over maps. -/
namespace Go.Dk
open Go.ChangeMaps (setBlock)
open Go.MapKept (Stamped)

theorem perm_set {α : Type} : ∀ {l : List α} {j : Nat}, j < l.length → ∀ x : α, (l.set j x).Perm (x :: l.eraseIdx j)
  | [], _, h, _ => by simp at h
  | y :: l, 0, _, x => by simp
  | y :: l, j + 1, h, x => by
    rw [List.set_cons_succ, List.eraseIdx_cons_succ]
    exact ((perm_set (l := l) (j := j) (by simpa using h) x).cons y).trans (List.Perm.swap x y _)
theorem perm_get {α : Type} {l : List α} {j : Nat} {x : α} (h : l[j]? = some x) : l.Perm (x :: l.eraseIdx j) := by
  obtain ⟨hj, rfl⟩ := List.getElem?_eq_some_iff.1 h
  have := perm_set hj l[j]
  rwa [List.set_getElem_self] at this

section
variable {α β : Type} {ka : α → Value} {vb : β → Value} {z : Value} {P : Program} {t kt et : TypeId} {w0 w : World} {F : Nat → Prop} {L M : List Res} {k kk : Value → World → Prop}
theorem lookup_at [DecidableEq α] {l : List (α × β)} {r : Nat} (hr : (mapR ka vb r l).ok w) (W : MapW P t kt et ka vb z) (a : α)
    (h : kk (((aget l a).map vb).getD z) w) : lookupK P t (.map (some r)) (ka a) false w kk := by
  obtain ⟨es, clock, hb, hs, hl⟩ := hr
  unfold lookupK
  rcases mapR_find W hs hl a w with ⟨hf, hg, _⟩ | ⟨j, e, b, hf, he, hek, hlj, hv, hg⟩
  · rw [hg] at h
    exact ⟨_, w, by simp [Instr.lookup, run_underlying W.und, MapKept.run_getObj_map hb, W.key.check w _ ⟨a, rfl⟩, hf, run_zero W.zero, Result.andThen], h⟩
  · rw [hg] at h
    exact ⟨_, w, by simp [Instr.lookup, run_underlying W.und, MapKept.run_getObj_map hb, W.key.check w _ ⟨a, rfl⟩, hf, hv, Result.andThen], h⟩
theorem mapR_nodup {l : List (α × β)} {r : Nat} (hr : (mapR ka vb r l).ok w) (hi : ∀ a b, ka a = ka b → a = b) : (akeys l).Nodup := by
  obtain ⟨es, clock, _, hs, hl⟩ := hr
  exact mapR_keys hi hs hl

/-! ### Values that are slices -/
abbrev MsL (α : Type) := List (α × Value × List Value)
def msM (l : MsL α) : List (α × Value) := l.map fun x => (x.1, x.2.1)
def msO (e : TypeId) (x : α × Value × List Value) : Res := own e 1 x.2.1 x.2.2.length x.2.2
/-- A map whose values are slices of one's own. -/
def msR (ka : α → Value) (e : TypeId) (r : Nat) (l : MsL α) : Res := seps (mapR ka (fun v : Value => v) r (msM l) :: l.map (msO e))
theorem akeys_msM (l : MsL α) : akeys (msM l) = akeys l := by unfold akeys msM; rw [List.map_map]; rfl
theorem Hp.msMake (H : Hp w0 F w L M) (ka : α → Value) (e : TypeId)
    (h : ∀ r w', Hp w0 F w' (msR ka e r [] :: L) M → k (.map (some r)) w') : makeMapK P t none w k :=
  H.makeMap ka (fun v : Value => v) fun r w' H => h r w' (Hp.join (Ls := [mapR ka (fun v : Value => v) r (msM ([] : MsL α))]) H)
theorem msR_map {e : TypeId} {r : Nat} {l : MsL α} (h : (msR ka e r l).ok w) : (mapR ka (fun v : Value => v) r (msM l)).ok w := h.1 _ (.head _)
variable [DecidableEq α]
def msV (l : MsL α) (a : α) : Value := ((aget l a).map (·.1)).getD (.slice none 0 0)
def msX (l : MsL α) (a : α) : List Value := ((aget l a).map (·.2)).getD []
theorem aget_msM (l : MsL α) (a : α) : aget (msM l) a = (aget l a).map (·.1) := by
  unfold aget msM
  induction l with
  | nil => rfl
  | cons x l ih =>
    rw [List.map_cons, List.find?_cons, List.find?_cons]
    by_cases h : x.1 = a
    · simp [h]
    · simp only [h, decide_false]
      exact ih
theorem aget_place {γ : Type} {l : List (α × γ)} {a : α} {b : γ} (h : aget l a = some b) : ∃ j : Nat, l[j]? = some (a, b) := by
  unfold aget at h
  cases hf : l.find? fun p => decide (p.1 = a) with
  | none => rw [hf] at h; cases h
  | some p =>
    rw [hf] at h
    injection h with h
    have h1 := List.find?_some hf
    have h2 := List.mem_of_find?_eq_some hf
    obtain ⟨j, hj⟩ := List.getElem?_of_mem h2
    refine ⟨j, ?_⟩
    rw [hj]
    obtain ⟨x, y⟩ := p
    have : x = a := by simpa using h1
    simp only at h
    rw [this, h]
theorem aset_set {γ : Type} {l : List (α × γ)} (hn : (akeys l).Nodup) {j : Nat} {a : α} {b0 : γ} (h : l[j]? = some (a, b0)) (b : γ) : aset l a b = l.set j (a, b) := by
  have hg := aget_of_mem hn (List.mem_of_getElem? h)
  unfold aset
  rw [hg]
  simp only [Option.isSome_some, if_true]
  apply List.ext_getElem?
  intro i
  rw [List.getElem?_map, List.getElem?_set]
  obtain ⟨hj, _⟩ := List.getElem?_eq_some_iff.1 h
  by_cases hij : j = i
  · subst hij
    rw [if_pos rfl, if_pos hj, h]; simp
  · rw [if_neg hij]
    cases hi : l[i]? with
    | none => rfl
    | some p =>
      have hne : p.1 ≠ a := fun e => by
        have h1 : (akeys l)[i]? = some a := by unfold akeys; rw [List.getElem?_map, hi, ← e]; rfl
        have h2 : (akeys l)[j]? = some a := by unfold akeys; rw [List.getElem?_map, h]; rfl
        exact hij ((List.getElem?_inj (List.getElem?_eq_some_iff.1 h2).1 hn).1 (h2.trans h1.symm))
      simp [hne]
theorem msM_aset (l : MsL α) (a : α) (v : Value) (xs : List Value) : msM (aset l a (v, xs)) = aset (msM l) a v := by
  unfold aset
  rw [aget_msM]
  cases aget l a with
  | none => simp [msM]
  | some b =>
    simp only [Option.isSome_some, Option.map_some, if_true]
    unfold msM
    rw [List.map_map, List.map_map]
    refine List.map_congr_left fun p _ => ?_
    simp only [Function.comp_apply]
    split <;> rfl
/-- To write a value: the map, the slice that stands there, and how it is shut. -/
theorem Hp.msOpen {e : TypeId} {r : Nat} {l : MsL α} (H : Hp w0 F w (msR ka e r l :: L) M) (hi : ∀ a b, ka a = ka b → a = b) (a : α) : ∃ v xs Ls, msV l a = v ∧ msX l a = xs ∧ Hp w0 F w (mapR ka (fun v : Value => v) r (msM l) :: own e 1 v xs.length xs :: (Ls ++ L)) M ∧
    ∀ w' v' xs', Hp w0 F w' (mapR ka (fun v : Value => v) r (aset (msM l) a v') :: own e 1 v' xs'.length xs' :: (Ls ++ L)) M → Hp w0 F w' (msR ka e r (aset l a (v', xs')) :: L) M := by
  have H' := H.split
  have hn : (akeys l).Nodup := by
    have := mapR_nodup (H'.get 0 rfl) hi
    rwa [akeys_msM] at this
  cases hg : aget l a with
  | none =>
    refine ⟨.slice none 0 0, [], l.map (msO e), by unfold msV; rw [hg]; rfl, by unfold msX; rw [hg]; rfl, ?_, fun w' v' xs' H2 => ?_⟩
    · exact (H'.ownNil e 1).perm (List.Perm.swap _ _ _)
    · have e1 : aset l a (v', xs') = l ++ [(a, v', xs')] := by unfold aset; rw [hg]; rfl
      unfold msR
      refine Hp.join ?_
      rw [msM_aset, e1, List.map_append, List.cons_append, List.append_assoc]
      refine H2.perm (List.Perm.cons _ ?_)
      exact (List.perm_middle (a := own e 1 v' xs'.length xs') (l₁ := l.map (msO e)) (l₂ := L)).symm
  | some b =>
    obtain ⟨v, xs⟩ := b
    obtain ⟨j, hj⟩ := aget_place hg
    have hjl := (List.getElem?_eq_some_iff.1 hj).1
    have hjm : (l.map (msO e))[j]? = some (own e 1 v xs.length xs) := by rw [List.getElem?_map, hj]; rfl
    refine ⟨v, xs, (l.map (msO e)).eraseIdx j, by unfold msV; rw [hg]; rfl, by unfold msX; rw [hg]; rfl, ?_, fun w' v' xs' H2 => ?_⟩
    · refine H'.perm ?_
      rw [List.cons_append]
      refine List.Perm.cons _ ?_
      have := (perm_get hjm).append_right L
      rwa [List.cons_append] at this
    · unfold msR
      refine Hp.join ?_
      rw [msM_aset, aset_set hn hj, List.map_set, List.cons_append]
      refine H2.perm (List.Perm.cons _ ?_)
      have := ((perm_set (l := l.map (msO e)) (j := j) (by simpa using hjl) (msO e (a, v', xs'))).append_right L).symm
      rwa [List.cons_append] at this
theorem msR_own {e : TypeId} {r : Nat} {l : MsL α} (h : (msR ka e r l).ok w) (a : α) : (own e 1 (msV l a) (msX l a).length (msX l a)).ok w := by
  unfold msV msX
  cases hg : aget l a with
  | none => exact World.ownsRow_nil w 0 e 1
  | some b =>
    obtain ⟨j, hj⟩ := aget_place hg
    exact h.1 _ (.tail _ (List.mem_map.2 ⟨_, List.mem_of_getElem? hj, rfl⟩))
theorem msR_form {e : TypeId} {r : Nat} {l : MsL α} (h : (msR ka e r l).ok w) (a : α) : ∃ A c, msV l a = .slice A (msX l a).length c := by
  obtain ⟨A, c, hv, _⟩ := own_form (msR_own h a)
  exact ⟨A, c, hv⟩
/-- m[k], of slices. -/
theorem msLookup_at {e : TypeId} {r : Nat} {l : MsL α} (h : (msR ka e r l).ok w) (W : MapW P t kt et ka (fun v : Value => v) (.slice none 0 0)) (a : α) (hk : kk (msV l a) w) : lookupK P t (.map (some r)) (ka a) false w kk := by
  refine lookup_at (msR_map h) W a ?_
  rw [aget_msM, Option.map_map]
  exact hk
theorem msV_aset (l : MsL α) (a c : α) (b : Value × List Value) : msV (aset l a b) c = if c = a then b.1 else msV l c := by
  unfold msV; rw [aget_aset]; split <;> rfl
theorem msX_aset (l : MsL α) (a c : α) (b : Value × List Value) : msX (aset l a b) c = if c = a then b.2 else msX l c := by
  unfold msX; rw [aget_aset]; split <;> rfl
end

/-! ### Ranges -/
section
variable {α β : Type} {ka : α → Value} {vb : β → Value} {z : Value} {P : Program} {t kt et : TypeId} {w0 w : World} {F : Nat → Prop} {L M : List Res} {k kk : Value → World → Prop}
def pairE (e : MapEntry) : Value × Value := (e.key, e.val)
def pairV (ka : α → Value) (vb : β → Value) (p : α × β) : Value × Value := (ka p.1, vb p.2)
def rngOk (ka : α → Value) (vb : β → Value) (bm r : Nat) (l D : List (α × β)) (w : World) : Prop :=
  ∃ (es : Array MapEntry) (clock since : Nat) (seen : Array Nat) (ds : List MapEntry), w.heap[bm]? = some (.map es clock) ∧ Stamped es clock ∧ es.toList.map pairE = l.map (pairV ka vb) ∧
    w.heap[r]? = some (.mapIter (some bm) since seen clock) ∧ (∀ x ∈ es.toList, x.born < since) ∧ since ≤ clock ∧ r ≠ bm ∧ seen.toList = ds.map (·.born) ∧ (∀ d ∈ ds, d ∈ es.toList) ∧ ds.map pairE = D.map (pairV ka vb)
/-- A map that is ranged over, and what has been handed out. -/
def rngR (ka : α → Value) (vb : β → Value) (bm r : Nat) (l D : List (α × β)) : Res :=
  ⟨fun g => g = bm ∨ g = r, rngOk ka vb bm r l D, fun w w' h ⟨es, clock, since, seen, ds, h1, h2, h3, h4, h5⟩ => ⟨es, clock, since, seen, ds, (h bm (.inl rfl)).trans h1, h2, h3, (h r (.inr rfl)).trans h4, h5⟩⟩
theorem rng_map {bm r : Nat} {l D : List (α × β)} (h : (rngR ka vb bm r l D).ok w) : (mapR ka vb bm l).ok w := by
  obtain ⟨es, clock, _, _, _, h1, h2, h3, _⟩ := h
  exact ⟨es, clock, h1, h2, h3⟩
theorem Hp.rangeMap {l : List (α × β)} {bm : Nat} (H : Hp w0 F w (mapR ka vb bm l :: L) M) {k0 e0 : TypeId} (ht : P.underlying t = some (.map k0 e0))
    (h : ∀ r w', Hp w0 F w' (rngR ka vb bm r l [] :: L) M → k (.pointer (some ⟨r, 0, none⟩)) w') : rangeK P t (.map (some bm)) w k := by
  obtain ⟨es, clock, hb, hs, hl⟩ := H.get 0 rfl
  have hlt : bm < w.heap.size := (Array.getElem?_eq_some_iff.1 hb).1
  unfold rangeK
  refine ⟨_, w.alloc (.mapIter (some bm) clock #[] clock), run_range_map w t k0 e0 bm es clock ht hb, h w.heap.size _ ?_⟩
  have H1 := H.add (Keeps.alloc w (.mapIter (some bm) clock #[] clock)) ⟨fun g => g = w.heap.size, fun u => u.heap[w.heap.size]? = some (.mapIter (some bm) clock #[] clock), fun _ _ h hw => (h _ rfl).trans hw⟩ (heap_alloc_new w _)
    (by rintro g rfl; exact ⟨Nat.le_refl _, by simp⟩)
  have hb' : (w.alloc (.mapIter (some bm) clock #[] clock)).heap[bm]? = some (.map es clock) := (heap_alloc_old w _ hlt).trans hb
  refine (Hp.join (Ls := [_, mapR ka vb bm l]) (L := L) H1).re (fun hok => ?_) (fun g hg => ?_)
  · have h1 := hok.1 _ (.head _)
    refine ⟨es, clock, clock, #[], [], hb', hs, hl, h1, hs.1, Nat.le_refl _, by omega, rfl, by simp, rfl⟩
  · rcases hg with rfl | rfl
    · exact ⟨mapR ka vb g l, .tail _ (.head _), rfl⟩
    · exact ⟨_, .head _, rfl⟩
theorem Hp.rangeDone {l D : List (α × β)} {bm r : Nat} (H : Hp w0 F w (rngR ka vb bm r l D :: L) M) : Hp w0 F w (mapR ka vb bm l :: L) M := H.re rng_map (by rintro g rfl; exact .inl rfl)
theorem pairV_inj (hi : ∀ a b, ka a = ka b → a = b) (hv : ∀ a b, vb a = vb b → a = b) {p q : α × β} (h : pairV ka vb p = pairV ka vb q) : p = q := by
  obtain ⟨a, b⟩ := p
  obtain ⟨c, d⟩ := q
  unfold pairV at h
  injection h with h1 h2
  rw [show a = c from hi _ _ h1, show b = d from hv _ _ h2]
theorem Hp.nextMap (H : Hp w0 F w L M) (n : Nat) {ty : TypeId} {bm r : Nat} {l D : List (α × β)} (hn : L[n]? = some (rngR ka vb bm r l D)) (hi : ∀ a b, ka a = ka b → a = b) (hv : ∀ a b, vb a = vb b → a = b)
    (h1 : (∀ p ∈ l, p ∈ D) → kk (.tuple #[.bool false]) w)
    (h2 : ∀ a b w', (a, b) ∈ l → (a, b) ∉ D → Hp w0 F w' (L.set n (rngR ka vb bm r l (D ++ [(a, b)]))) M → kk (.tuple #[.bool true, ka a, vb b]) w') : nextK P (.pointer (some ⟨r, 0, none⟩)) false ty w kk := by
  obtain ⟨es, clock, since, seen, ds, hb, hs, hl, hr, hold, hsc, hne, hseen, hds, hD⟩ := H.get n hn
  have hrl : r < w.heap.size := (Array.getElem?_eq_some_iff.1 hr).1
  have hbl : bm < w.heap.size := (Array.getElem?_eq_some_iff.1 hb).1
  have hcon : ∀ x : MapEntry, x ∈ es.toList → (seen.contains x.born = true ↔ x ∈ ds) := fun x hx => by
    rw [Array.contains_iff_mem, ← Array.mem_toList_iff, hseen, List.mem_map]
    constructor
    · rintro ⟨d, hd, he⟩
      have hn2 := hs.2.1
      have h3 := find_born d es.toList hn2 (hds d hd)
      have h4 := find_born x es.toList hn2 hx
      rw [← he] at h4
      rw [h3] at h4
      injection h4 with h4
      exact h4 ▸ hd
    · intro hx; exact ⟨x, hx, rfl⟩
  have hent : ∀ x ∈ es.toList, ∃ p ∈ l, pairE x = pairV ka vb p := fun x hx => by
    have : pairE x ∈ es.toList.map pairE := List.mem_map.2 ⟨x, hx, rfl⟩
    rw [hl] at this
    obtain ⟨p, hp, he⟩ := List.mem_map.1 this
    exact ⟨p, hp, he.symm⟩
  unfold nextK
  rcases run_next_at (P := P) w ty r bm since clock seen es clock hr hb hold hsc with ⟨h0, hrun⟩ | ⟨e, he, w1, hw1, hrun⟩
  · refine ⟨_, w, hrun, h1 fun p hp => ?_⟩
    have : pairV ka vb p ∈ l.map (pairV ka vb) := List.mem_map.2 ⟨p, hp, rfl⟩
    rw [← hl] at this
    obtain ⟨x, hx, hxe⟩ := List.mem_map.1 this
    have hxs : x ∈ ds := (hcon x hx).1 (by
      cases hc : seen.contains x.born with
      | true => rfl
      | false =>
        have hm : x ∈ leftOf es seen := Array.mem_filter.2 ⟨Array.mem_toList_iff.1 hx, by rw [hc]; rfl⟩
        have := Array.size_pos_of_mem hm
        omega)
    have : pairE x ∈ ds.map pairE := List.mem_map.2 ⟨x, hxs, rfl⟩
    rw [hD, hxe] at this
    obtain ⟨q, hq, hqe⟩ := List.mem_map.1 this
    exact pairV_inj hi hv hqe ▸ hq
  · obtain ⟨hee, hec⟩ := mem_left he
    obtain ⟨⟨a, b⟩, hp, hpe⟩ := hent e hee
    have hkey : e.key = ka a := congrArg Prod.fst hpe
    have hval : e.val = vb b := congrArg Prod.snd hpe
    rw [hkey, hval] at hrun
    have hheap : w1.heap = w.heap ∧ w1.os = w.os ∧ w1.tape = w.tape ∧ w1.output = w.output := by rcases hw1 with rfl | rfl <;> exact ⟨rfl, rfl, rfl, rfl⟩
    obtain ⟨hh, ho, htp, hou⟩ := hheap
    have hset := MapKept.heap_set (w := w1) (o' := .mapIter (some bm) since (seen.push e.born) clock) (by rw [hh]; exact hr)
    have hnd : e ∉ ds := fun hd => by rw [(hcon e hee).2 hd] at hec; cases hec
    refine ⟨_, _, hrun, h2 a b _ hp (fun hpD => ?_) (H.turn n hn _ ⟨by show (setBlock w1 r _).os = w.os; exact ho, htp, hou, ?_, fun g hg hgf => ?_⟩ ?_ ?_)⟩
    · have : pairV ka vb (a, b) ∈ D.map (pairV ka vb) := List.mem_map.2 ⟨_, hpD, rfl⟩
      rw [← hD] at this
      obtain ⟨d, hd, hde⟩ := List.mem_map.1 this
      have hk : d.key = e.key := by rw [hkey]; exact congrArg Prod.fst hde
      have hn3 := hs.2.2
      have : d = e := by
        obtain ⟨i, hi1, hi2⟩ := List.getElem_of_mem (hds d hd)
        obtain ⟨j, hj1, hj2⟩ := List.getElem_of_mem hee
        have hij : i = j := by
          refine (List.getElem?_inj (by simpa using hi1) hn3).1 ?_
          rw [List.getElem?_map, List.getElem?_map, List.getElem?_eq_getElem hi1, List.getElem?_eq_getElem hj1, hi2, hj2]
          exact congrArg some hk
        subst hij
        rw [← hi2, ← hj2]
      exact hnd (this ▸ hd)
    · show w.heap.size ≤ (w1.heap.setIfInBounds r _).size
      simp [hh]
    · have hgr : g ≠ r := fun e => hgf (.inr e)
      rw [← hh]
      exact hset.2 g hgr
    · refine ⟨es, clock, since, seen.push e.born, ds ++ [e], ?_, hs, hl, hset.1, hold, hsc, hne, ?_, ?_, ?_⟩
      · exact (hset.2 bm (Ne.symm hne)).trans (by rw [hh]; exact hb)
      · simp [hseen]
      · intro d hd
        rcases List.mem_append.1 hd with hd | hd
        · exact hds d hd
        · rw [List.mem_singleton.1 hd]; exact hee
      · rw [List.map_append, List.map_append, hD]
        simp [hpe]
    · intro g hg
      refine ⟨?_, .inl hg⟩
      show g < (w1.heap.setIfInBounds r _).size
      rw [Array.size_setIfInBounds, hh]
      rcases hg with rfl | rfl
      · exact hbl
      · exact hrl
/-- The entry that was handed out last. -/
theorem entryMap_at {bm r : Nat} {l D : List (α × β)} {a : α} {b : β} (h : (rngR ka vb bm r l (D ++ [(a, b)])).ok w) (hk : kk (.tuple #[ka a, vb b]) w) : entryK P (.pointer (some ⟨r, 0, none⟩)) w kk := by
  obtain ⟨es, clock, since, seen, ds, hb, hs, hl, hr, hold, hsc, hne, hseen, hds, hD⟩ := h
  rw [List.map_append, List.map_cons, List.map_nil] at hD
  have hlen : ds ≠ [] := fun e => by subst e; simp at hD
  obtain ⟨ds0, e, rfl⟩ : ∃ ds0 e, ds = ds0 ++ [e] := by
    rcases List.eq_nil_or_concat ds with e | ⟨ds0, e, he⟩
    · exact absurd e hlen
    · exact ⟨ds0, e, by simpa using he⟩
  rw [List.map_append, List.map_cons, List.map_nil] at hD hseen
  have he := (List.append_inj' hD rfl).2
  injection he with he _
  have hkey : e.key = ka a := congrArg Prod.fst he
  have hval : e.val = vb b := congrArg Prod.snd he
  have hpush : seen = ((ds0.map (·.born)).toArray).push e.born := by
    apply Array.toList_inj.1
    rw [hseen]; simp
  rw [hpush] at hr
  unfold entryK
  refine ⟨_, w, run_entry_at w r bm since _ es clock e hr hb (hds e (by simp)) hs.2.1, ?_⟩
  rw [hkey, hval]; exact hk
end
end Go.Dk
end

section
/- Slices of slices; what is appended from a slice that is only read. -/
namespace Go.Dk
section
variable {P : Program} {w0 w w' : World} {F : Nat → Prop} {L M : List Res} {k kk : Value → World → Prop}
theorem addr_add (g o j : Nat) : (⟨g, o, none⟩ : Addr).add j = ⟨g, o + j, none⟩ := by unfold Addr.add; split <;> simp_all
theorem elemOf {t e : TypeId} (ht : P.underlying t = some (.slice e)) : P.underlying t = some (.slice (P.elem t)) := by
  have : P.elem t = e := by simp [Program.elem, ht]
  rw [this]; exact ht
theorem elemIs {t e : TypeId} (ht : P.underlying t = some (.slice e)) : P.elem t = e := by simp [Program.elem, ht]
theorem Sl.empty {v : Value} {sz : Nat} {xs : List Value} {A : Option Addr} {c : Nat} (hv : v = .slice A 0 c) (hx : xs = []) : Sl w v sz 0 xs := by
  subst hx; subst hv
  exact ⟨by simp, A, c, rfl, Nat.zero_le _, .inl rfl⟩
/-- s[:i]. -/
theorem Sl.sliceTo {t e : TypeId} {sz l c i : Nat} {A : Option Addr} {xs : List Value} {kd : IntKind} {j : Int} (hs : Sl w (.slice A l c) sz l xs) (ht : P.underlying t = some (.slice e)) (hz : sizeT P e = some sz) (hj : j = (i : Int)) (hi : i ≤ l)
    (h : ∀ A' c', Sl w (.slice A' i c') sz i (xs.take (i * sz)) → kk (.slice A' i c') w) : sliceK P t (.slice A l c) none (some (.int kd j)) none w kk := by
  subst hj
  obtain ⟨hlen, A1, c1, hv, hlc, hcase⟩ := hs
  injection hv with e1 _ e2
  subst e1; subst e2
  unfold sliceK
  refine ⟨sliced A 0 i c sz, w, ?_, ?_⟩
  · rw [run_sliceAt_slice w t _ _ _ _ (elemOf ht), run_slice_h w t A l c (elemOf ht) kd (i : Int) (by omega) (by omega), elemIs ht, run_sizeOf hz]
    rfl
  · have e : sliced A 0 i c sz = .slice (if c = 0 then A else A.map (·.add 0)) i c := by unfold sliced; simp
    rw [e]
    refine h _ _ ?_
    rcases Nat.eq_zero_or_pos i with rfl | h0
    · exact Sl.empty rfl (by simp)
    · rcases hcase with h1 | ⟨g, o, rfl, hg, hx⟩
      · omega
      · refine ⟨?_, _, c, rfl, by omega, .inr ⟨g, o, ?_, hg, fun j hj => ?_⟩⟩
        · rw [List.length_take, hlen]
          have := Nat.mul_le_mul_right sz hi
          omega
        · rw [if_neg (by omega)]
          simp [addr_add]
        · have := Nat.mul_le_mul_right sz hi
          rw [hx j (by omega), List.getElem?_take]
          rw [if_pos hj]
/-- s[i:]. -/
theorem Sl.sliceFrom {t e : TypeId} {sz l c i : Nat} {A : Option Addr} {xs : List Value} {kd : IntKind} {j : Int} (hs : Sl w (.slice A l c) sz l xs) (ht : P.underlying t = some (.slice e)) (hz : sizeT P e = some sz) (hj : j = (i : Int)) (hi : i ≤ l)
    (h : ∀ A' c', Sl w (.slice A' (l - i) c') sz (l - i) (xs.drop (i * sz)) → kk (.slice A' (l - i) c') w) : sliceK P t (.slice A l c) (some (.int kd j)) none none w kk := by
  subst hj
  obtain ⟨hlen, A1, c1, hv, hlc, hcase⟩ := hs
  injection hv with e1 _ e2
  subst e1; subst e2
  unfold sliceK
  refine ⟨sliced A i l c sz, w, ?_, ?_⟩
  · rw [run_sliceAt_slice w t _ _ _ _ (elemOf ht), run_slice_l w t A l c (elemOf ht) kd (i : Int) (by omega) (by omega), elemIs ht, run_sizeOf hz]
    rfl
  · have e : sliced A i l c sz = .slice (if c = i then A else A.map (·.add (i * sz))) (l - i) (c - i) := rfl
    rw [e]
    refine h _ _ ?_
    rcases Nat.eq_zero_or_pos (l - i) with h0 | h0
    · rw [h0]
      refine Sl.empty rfl (List.drop_eq_nil_iff.2 ?_)
      have : l = i := by omega
      rw [hlen, this]; exact Nat.le_refl _
    · rcases hcase with h1 | ⟨g, o, rfl, hg, hx⟩
      · omega
      · refine ⟨?_, _, c - i, rfl, by omega, .inr ⟨g, o + i * sz, ?_, hg, fun j hj => ?_⟩⟩
        · rw [List.length_drop, hlen, Nat.sub_mul]
        · rw [if_neg (by omega)]
          simp [addr_add]
        · rw [Nat.sub_mul] at hj
          rw [Nat.add_assoc, hx (i * sz + j) (by omega), List.getElem?_drop]
/-- append of a slice that is only read. -/
theorem Hp.appendSl (H : Hp w0 F w L M) (n : Nat) {t e ty : TypeId} {z v : Value} {sz b l c d : Nat} {A : Option Addr} {xs ys : List Value} {cst : Array Bool} (T : SlT P t e z sz b)
    (hn : L[n]? = some (own e sz v l xs)) (hs : Sl w (.slice A c d) sz c ys) (h1 : ∀ u ∈ ys, u.oneCell' = true) (hl : (l + c) * b ≤ 140737488355328) (hl' : l + c < 1152921504606846976)
    (h : ∀ A d w', Hp w0 F w' (L.set n (own e sz (.slice A (l + c) d) (l + c) (xs ++ ys))) M → kk (.slice A (l + c) d) w') :
    builtinK P .append #[t, t] ty cst [v, .slice A c d] w kk := by
  obtain ⟨i, hi, hz, hs', hb⟩ := T.parts
  have hown : w.ownsRow 0 e sz v l xs := H.get n hn
  have hyl := hs.1
  rcases A with _ | a
  · have hc : c = 0 := by
      rcases Nat.eq_zero_or_pos c with h0 | h0
      · exact h0
      · obtain ⟨_, _, hA⟩ := hs.A h0; cases hA
    subst hc
    have hy : ys = [] := List.eq_nil_of_length_eq_zero (by simpa using hyl)
    subst hy
    obtain ⟨A', c', rfl, hlc'⟩ := own_form (H.get n hn)
    have hL : L.set n (own e sz (.slice A' (l + 0) c') (l + 0) (xs ++ [])) = L := by
      obtain ⟨h1, h2⟩ := List.getElem?_eq_some_iff.1 hn
      rw [List.append_nil, Nat.add_zero, ← h2]; exact List.set_getElem_self h1
    unfold builtinK
    refine ⟨_, w, ?_, h A' c' w (by rw [hL]; exact H)⟩
    show (do pure (.value (← Builtin.append_ #[t, t] ty #[.slice A' l c', .slice none 0 d])) : Sem Next).run P w = _
    simp [Builtin.append_, run_underlying T.und, sizeOf, typeInfo, hi, Builtin.lenOf, Builtin.firstCells, storeCells, hlc']
    cases A' <;> simp [Result.andThen]
  · obtain ⟨v', w', hrun, hown', hg, _, hloc⟩ := run_append_own_at (P := P) w 0 t ty e i z sz b T.und hi hz hs' hb T.zs T.pos v l xs hown a c d ys hyl
      (fun j u hu => by
        have hjl := (List.getElem?_eq_some_iff.1 hu).1
        have hc : 0 < c := by
          rcases Nat.eq_zero_or_pos c with h0 | h0
          · subst h0; simp at hyl; subst hyl; simp at hjl
          · exact h0
        obtain ⟨g', o', ha⟩ := hs.A hc
        injection ha with ha
        subst ha
        rw [addr_add, hs.cell j (by omega), hu]) h1 (by unfold maxLen; omega) hl (Nat.zero_le _)
    have hk : Keeps (own e sz v l xs).foot w w' := ⟨hg.os, hg.tape, hg.output, hg.size, fun x hx hne => hg.block x hx fun e => hne e.symm⟩
    have H' := H.turn n hn (own e sz v' (l + c) (xs ++ ys)) hk hown' (fun x hx => ⟨(World.ownsRow.lt (w := w') (base := 0) hown' x hx).2, by
      have hx' : v'.ownBlock = some x := hx
      rcases hloc with h | h
      · left; show v.ownBlock = some x; rw [← h]; exact hx'
      · right; rw [h] at hx'; injection hx' with hx'; omega⟩)
    have hv : ∃ A d, v' = .slice A (l + c) d := by
      rcases hown'.2 with ⟨rfl, h0⟩ | ⟨g', cap, cur, hv, _⟩
      · exact ⟨none, 0, by rw [h0]⟩
      · exact ⟨_, _, hv⟩
    obtain ⟨A, d', rfl⟩ := hv
    unfold builtinK
    refine ⟨_, w', ?_, h A d' w' H'⟩
    show (do pure (.value (← Builtin.append_ #[t, t] ty #[v, .slice (some a) c d])) : Sem Next).run P w = _
    rw [Sem.run_bind, hrun]
    rfl
end
end Go.Dk
end

section
/- Decision diagrams in an arena: what an id says; one id for one thing. Plain Lean. -/
namespace Go.Dk

/-- What levels are turned. -/
abbrev Asg := Nat → Bool
def upA (a : Asg) (k : Nat) (b : Bool) : Asg := fun j => if j = k then b else a j
def mixA (k : Nat) (a b : Asg) : Asg := fun j => if j < k then a j else b j
def ndA (A : Ar) (id : Int) : Option Nd := if 2 ≤ id then slot A (id - 2).toNat else none
def semF (A : Ar) : Nat → Int → Asg → Bool
  | 0, id, _ => decide (id = 1)
  | f + 1, id, a =>
    match ndA A id with
    | none => decide (id = 1)
    | some d => semF A f (if a d.l then (d.hi : Int) else (d.lo : Int)) a
/-- What an id says. -/
def sem (A : Ar) (id : Int) (a : Asg) : Bool := semF A 25 id a

theorem upA_same (a : Asg) (k : Nat) (b : Bool) : upA a k b k = b := by unfold upA; rw [if_pos rfl]
theorem upA_ne (a : Asg) {k j : Nat} (b : Bool) (h : j ≠ k) : upA a k b j = a j := by unfold upA; rw [if_neg h]
theorem upA_self (a : Asg) (k : Nat) : upA a k (a k) = a := by funext j; unfold upA; split <;> simp_all
theorem upA_up (a : Asg) (k : Nat) (b c : Bool) : upA (upA a k b) k c = upA a k c := by funext j; unfold upA; split <;> rfl
theorem upA_comm (a : Asg) {k j : Nat} (h : k ≠ j) (b c : Bool) : upA (upA a k b) j c = upA (upA a j c) k b := by
  funext i
  unfold upA
  by_cases h1 : i = j
  · rw [if_pos h1, if_neg (by omega), if_pos h1]
  · by_cases h2 : i = k
    · rw [if_neg h1, if_pos h2, if_pos h2]
    · rw [if_neg h1, if_neg h2, if_neg h2, if_neg h1]

theorem nd_lvl {A : Ar} {id : Int} {d : Nd} (h : ndA A id = some d) : lvlA A id = d.l := by
  unfold ndA at h
  split at h
  · rename_i h2
    have := lvlA_slot h
    rwa [show (((id - 2).toNat : Nat) : Int) + 2 = id by omega] at this
  · cases h
theorem nd_slot {A : Ar} {i : Nat} : ndA A ((i : Int) + 2) = slot A i := by
  unfold ndA
  rw [if_pos (by omega), show ((i : Int) + 2 - 2).toNat = i by omega]
theorem nd_place {A : Ar} {id : Int} {d : Nd} (h : ndA A id = some d) : ∃ i : Nat, id = (i : Int) + 2 ∧ slot A i = some d := by
  unfold ndA at h
  split at h
  · exact ⟨(id - 2).toNat, by omega, h⟩
  · cases h
theorem nd_none {A : Ar} {id : Int} (h : ndA A id = none) (h0 : 0 ≤ lvlA A id) : id = 0 ∨ id = 1 := by
  rcases lvlA_node h0 with h1 | h1 | ⟨i, n, rfl, hs, _⟩
  · exact .inl h1
  · exact .inr h1
  · rw [nd_slot, hs] at h; cases h
theorem lvl_end {A : Ar} {id : Int} (h : id = 0 ∨ id = 1) : lvlA A id = 24 := by unfold lvlA; rw [if_pos h]
theorem nd_end {A : Ar} {id : Int} (h : id = 0 ∨ id = 1) : ndA A id = none := by unfold ndA; rw [if_neg (by omega)]
theorem lev_of {A : Ar} (h : ArInv A) {id : Int} {d : Nd} (hd : ndA A id = some d) : (d.l : Int) < lvlA A d.lo ∧ (d.l : Int) < lvlA A d.hi := by
  obtain ⟨i, rfl, hs⟩ := nd_place hd
  exact h.lev i d hs

theorem semF_stable {A : Ar} (h : ArInv A) (a : Asg) : ∀ (f f' : Nat) (id : Int), 24 - lvlA A id < f → 24 - lvlA A id < f' → semF A f id a = semF A f' id a
  | 0, _, id, h1, _ => by have := lvlA_le h id; omega
  | _ + 1, 0, id, _, h2 => by have := lvlA_le h id; omega
  | f + 1, f' + 1, id, h1, h2 => by
    unfold semF
    cases hd : ndA A id with
    | none => rfl
    | some d =>
      have hl := nd_lvl hd
      have hlev := lev_of h hd
      refine semF_stable h a f f' _ ?_ ?_
      · split <;> omega
      · split <;> omega
theorem sem_none {A : Ar} {id : Int} (h : ndA A id = none) (a : Asg) : sem A id a = decide (id = 1) := by
  unfold sem semF
  rw [h]
theorem sem_node {A : Ar} (h : ArInv A) {id : Int} {d : Nd} (hd : ndA A id = some d) (a : Asg) : sem A id a = sem A (if a d.l then (d.hi : Int) else (d.lo : Int)) a := by
  have hl := nd_lvl hd
  have hlev := lev_of h hd
  have e : sem A id a = semF A 24 (if a d.l then (d.hi : Int) else (d.lo : Int)) a := by
    unfold sem
    rw [semF, hd]
  rw [e]
  refine semF_stable h a _ _ _ ?_ ?_ <;> split <;> omega
theorem lvl_induct {A : Ar} (h : ArInv A) {P : Int → Prop} (h0 : ∀ id, ndA A id = none → P id) (h1 : ∀ id d, ndA A id = some d → P d.lo → P d.hi → P id) : ∀ id, P id := by
  have key : ∀ (f : Nat) (id : Int), 24 - lvlA A id < f → P id := by
    intro f
    induction f with
    | zero => intro id hf; have := lvlA_le h id; omega
    | succ f ih =>
      intro id hf
      cases hd : ndA A id with
      | none => exact h0 id hd
      | some d =>
        have hl := nd_lvl hd
        have hlev := lev_of h hd
        exact h1 id d hd (ih _ (by omega)) (ih _ (by omega))
  intro id
  have : -1 ≤ lvlA A id := by
    unfold lvlA
    split
    · omega
    · split
      · split <;> omega
      · omega
  exact key 26 id (by omega)
theorem sem_agree {A : Ar} (h : ArInv A) {a b : Asg} : ∀ id : Int, (∀ j : Nat, lvlA A id ≤ j → a j = b j) → sem A id a = sem A id b := by
  refine lvl_induct h (fun id hd _ => ?_) (fun id d hd ih1 ih2 hab => ?_)
  · rw [sem_none hd, sem_none hd]
  · have hl := nd_lvl hd
    have hlev := lev_of h hd
    rw [sem_node h hd, sem_node h hd, hab d.l (by omega)]
    split
    · exact ih2 fun j hj => hab j (by omega)
    · exact ih1 fun j hj => hab j (by omega)
theorem sem_up {A : Ar} (h : ArInv A) {id : Int} {k : Nat} (hk : (k : Int) < lvlA A id) (a : Asg) (b : Bool) : sem A id (upA a k b) = sem A id a :=
  sem_agree h id fun j hj => upA_ne a b (by omega)

/-- A diagram of n levels. -/
structure BInv (n : Nat) (A : Ar) : Prop where
  inv : ArInv A
  lt : ∀ i d, slot A i = some d → d.l < n
  ne : ∀ i d, slot A i = some d → d.lo ≠ d.hi
theorem BInv.nil (n : Nat) : BInv n [] :=
  ⟨⟨fun i j d h => by simp [slot] at h, fun i d h => by simp [slot] at h, fun i d h => by simp [slot] at h⟩, fun i d h => by simp [slot] at h, fun i d h => by simp [slot] at h⟩

theorem sem_lo {A : Ar} (h : ArInv A) {id : Int} {d : Nd} (hd : ndA A id = some d) (a : Asg) : sem A d.lo a = sem A id (upA a d.l false) := by
  rw [sem_node h hd, upA_same]
  exact (sem_up h (lev_of h hd).1 a false).symm
theorem sem_hi {A : Ar} (h : ArInv A) {id : Int} {d : Nd} (hd : ndA A id = some d) (a : Asg) : sem A d.hi a = sem A id (upA a d.l true) := by
  rw [sem_node h hd, upA_same]
  exact (sem_up h (lev_of h hd).2 a true).symm

/-- Two ids that say the same are one. -/
theorem canon {n : Nat} {A : Ar} (h : BInv n A) : ∀ f g : Int, 0 ≤ lvlA A f → 0 ≤ lvlA A g → (∀ a, sem A f a = sem A g a) → f = g := by
  have key : ∀ (m : Nat) (f g : Int), 0 ≤ lvlA A f → 0 ≤ lvlA A g → 48 - lvlA A f - lvlA A g < m → (∀ a, sem A f a = sem A g a) → f = g := by
    intro m
    induction m with
    | zero =>
      intro f g _ _ hm _
      have := lvlA_le h.inv f
      have := lvlA_le h.inv g
      omega
    | succ m ih =>
      have one : ∀ (f g : Int) (d : Nd), ndA A f = some d → (d.l : Int) < lvlA A g → 0 ≤ lvlA A g → 48 - lvlA A f - lvlA A g < (m + 1 : Nat) → (∀ a, sem A f a = sem A g a) → False := by
        intro f g d hd hlt hg hm hs
        have hl := nd_lvl hd
        have hlev := lev_of h.inv hd
        obtain ⟨i, _, hsl⟩ := nd_place hd
        have e1 : (d.lo : Int) = g := ih _ _ (by omega) hg (by omega) fun a => by rw [sem_lo h.inv hd, hs]; exact sem_up h.inv hlt a false
        have e2 : (d.hi : Int) = g := ih _ _ (by omega) hg (by omega) fun a => by rw [sem_hi h.inv hd, hs]; exact sem_up h.inv hlt a true
        exact h.ne i d hsl (by omega)
      intro f g hf hg hm hs
      cases hfd : ndA A f with
      | none =>
        have hf1 := nd_none hfd hf
        cases hgd : ndA A g with
        | none =>
          have hg1 := nd_none hgd hg
          have := hs fun _ => false
          rw [sem_none hfd, sem_none hgd] at this
          rcases hf1 with rfl | rfl <;> rcases hg1 with rfl | rfl <;> first | rfl | (simp at this)
        | some d' =>
          have hl := nd_lvl hgd
          have := lev_of h.inv hgd
          have h1 := lvlA_le h.inv (d'.lo : Int)
          have h24 := lvl_end (A := A) hf1
          exact (one g f d' hgd (by omega) hf (by omega) fun a => (hs a).symm).elim
      | some d =>
        have hl := nd_lvl hfd
        have hlev := lev_of h.inv hfd
        cases hgd : ndA A g with
        | none =>
          have h24 := lvl_end (A := A) (nd_none hgd hg)
          have h1 := lvlA_le h.inv (d.lo : Int)
          exact (one f g d hfd (by omega) hg (by omega) hs).elim
        | some d' =>
          have hl' := nd_lvl hgd
          have hlev' := lev_of h.inv hgd
          rcases Nat.lt_trichotomy d.l d'.l with hlt | heq | hlt
          · exact (one f g d hfd (by omega) hg (by omega) hs).elim
          · have e1 : (d.lo : Int) = d'.lo := ih _ _ (by omega) (by omega) (by omega) fun a => by rw [sem_lo h.inv hfd, sem_lo h.inv hgd, hs, heq]
            have e2 : (d.hi : Int) = d'.hi := ih _ _ (by omega) (by omega) (by omega) fun a => by rw [sem_hi h.inv hfd, sem_hi h.inv hgd, hs, heq]
            obtain ⟨i, rfl, hi⟩ := nd_place hfd
            obtain ⟨j, rfl, hj⟩ := nd_place hgd
            obtain ⟨l, lo, hi'⟩ := d
            obtain ⟨l', lo', hi''⟩ := d'
            simp only at heq e1 e2
            have e1' : lo = lo' := by omega
            have e2' : hi' = hi'' := by omega
            subst heq; subst e1'; subst e2'
            have := h.inv.uniq i j _ hi hj
            omega
          · exact (one g f d' hgd (by omega) hf (by omega) fun a => (hs a).symm).elim
  intro f g hf hg hs
  exact key 49 f g hf hg (by omega) hs

/-! ### What is said -/
abbrev Fn := Asg → Bool
def Indep (F : Fn) (k : Nat) : Prop := ∀ a b, F (upA a k b) = F a
structure Rep (A : Ar) (id : Int) (F : Fn) : Prop where
  there : 0 ≤ lvlA A id
  says : ∀ a, sem A id a = F a
theorem rep_canon {n : Nat} {A : Ar} (h : BInv n A) {f g : Int} {F : Fn} (hf : Rep A f F) (hg : Rep A g F) : f = g :=
  canon h f g hf.there hg.there fun a => by rw [hf.says, hg.says]
theorem rep_eq {n : Nat} {A : Ar} (h : BInv n A) {f g : Int} {F G : Fn} (hf : Rep A f F) (hg : Rep A g G) : f = g ↔ ∀ a, F a = G a := by
  constructor
  · rintro rfl a; rw [← hf.says, hg.says]
  · intro he
    exact canon h f g hf.there hg.there fun a => by rw [hf.says, hg.says, he]
theorem rep_zero {A : Ar} : Rep A 0 fun _ => false := ⟨by rw [lvl_end (.inl rfl)]; decide, fun a => by rw [sem_none (nd_end (.inl rfl))]; rfl⟩
theorem rep_one {A : Ar} : Rep A 1 fun _ => true := ⟨by rw [lvl_end (.inr rfl)]; decide, fun a => by rw [sem_none (nd_end (.inr rfl))]; rfl⟩
theorem rep_self {A : Ar} {id : Int} (h : 0 ≤ lvlA A id) : Rep A id (sem A id) := ⟨h, fun _ => rfl⟩
theorem Rep.congr {A : Ar} {id : Int} {F G : Fn} (h : Rep A id F) (he : ∀ a, F a = G a) : Rep A id G := ⟨h.there, fun a => (h.says a).trans (he a)⟩
theorem dep_node {n : Nat} {A : Ar} (h : BInv n A) {id : Int} {d : Nd} (hd : ndA A id = some d) : ¬ Indep (sem A id) d.l := fun hi => by
  obtain ⟨i, _, hs⟩ := nd_place hd
  have hlev := lev_of h.inv hd
  have : (d.lo : Int) = d.hi := canon h _ _ (by omega) (by omega) fun a => by rw [sem_lo h.inv hd, sem_hi h.inv hd, hi, hi]
  exact h.ne i d hs (by omega)
/-- What hangs on no level up to k stands below it. -/
theorem rep_level {n : Nat} {A : Ar} (h : BInv n A) {id : Int} {F : Fn} (hr : Rep A id F) {k : Nat} (hk : k < 24) (hi : ∀ j, j ≤ k → Indep F j) : (k : Int) < lvlA A id := by
  cases hd : ndA A id with
  | none => rw [lvl_end (nd_none hd hr.there)]; omega
  | some d =>
    have hl := nd_lvl hd
    rcases Nat.lt_or_ge k d.l with hlt | hge
    · omega
    · exact (dep_node h hd fun a b => by rw [hr.says, hr.says]; exact hi d.l hge a b).elim
theorem rep_indep {A : Ar} (h : ArInv A) {id : Int} {F : Fn} (hr : Rep A id F) {k : Nat} (hk : (k : Int) < lvlA A id) : Indep F k := fun a b => by
  rw [← hr.says, ← hr.says]; exact sem_up h hk a b
theorem rep_top {n : Nat} {A : Ar} (h : BInv n A) {id : Int} {F : Fn} (hr : Rep A id F) {k : Nat} (hn : n ≤ k) : Indep F k := fun a b => by
  rw [← hr.says, ← hr.says]
  have : ∀ id, sem A id (upA a k b) = sem A id a := by
    refine lvl_induct h.inv (fun id hd => ?_) (fun id d hd ih1 ih2 => ?_)
    · rw [sem_none hd, sem_none hd]
    · obtain ⟨i, _, hs⟩ := nd_place hd
      have := h.lt i d hs
      rw [sem_node h.inv hd, sem_node h.inv hd, upA_ne a b (by omega)]
      split
      · exact ih2
      · exact ih1
  exact this id

/-! ### More nodes -/
def Ext (A A' : Ar) : Prop := ∀ i d, slot A i = some d → slot A' i = some d
theorem Ext.refl (A : Ar) : Ext A A := fun _ _ h => h
theorem Ext.trans {A B C : Ar} (h : Ext A B) (k : Ext B C) : Ext A C := fun i d hd => k i d (h i d hd)
theorem Ext.nd {A A' : Ar} (h : Ext A A') {id : Int} {d : Nd} (hd : ndA A id = some d) : ndA A' id = some d := by
  obtain ⟨i, rfl, hs⟩ := nd_place hd
  rw [nd_slot]; exact h i d hs
theorem Ext.lvl {A A' : Ar} (h : Ext A A') {id : Int} (h0 : 0 ≤ lvlA A id) : lvlA A' id = lvlA A id := by
  cases hd : ndA A id with
  | none => rw [lvl_end (nd_none hd h0), lvl_end (nd_none hd h0)]
  | some d => rw [nd_lvl hd, nd_lvl (h.nd hd)]
theorem Ext.sem {A A' : Ar} (hA : ArInv A) (hA' : ArInv A') (h : Ext A A') (a : Asg) : ∀ id, 0 ≤ lvlA A id → Dk.sem A' id a = Dk.sem A id a := by
  refine lvl_induct hA (fun id hd h0 => ?_) (fun id d hd ih1 ih2 _ => ?_)
  · rw [sem_none hd, sem_none (nd_end (nd_none hd h0))]
  · have hlev := lev_of hA hd
    rw [sem_node hA hd, sem_node hA' (h.nd hd)]
    split
    · exact ih2 (by omega)
    · exact ih1 (by omega)
theorem Rep.ext {A A' : Ar} (hA : ArInv A) (hA' : ArInv A') (h : Ext A A') {id : Int} {F : Fn} (hr : Rep A id F) : Rep A' id F :=
  ⟨by rw [h.lvl hr.there]; exact hr.there, fun a => by rw [h.sem hA hA' a id hr.there, hr.says]⟩
theorem ext_put {A : Ar} {n : Nd} : Ext A (putA A n) := fun i d hd => by
  rw [slot_put]
  split
  · rename_i he
    subst he
    rw [slot_free] at hd; cases hd
  · exact hd

/-! ### What is needed, and what is lacking -/
/-- A node says what comes of F when the levels ahead are turned in some way. -/
def Needed (A : Ar) (F : Fn) (i : Nat) (d : Nd) : Prop := ∃ a, ∀ b, sem A ((i : Int) + 2) b = F (mixA d.l a b)
/-- Something that F needs is nowhere. -/
def Lack (A : Ar) (F : Fn) : Prop := ∃ k a, ¬ Indep (fun b => F (mixA k a b)) k ∧ ∀ i d, slot A i = some d → ¬ ∀ b, sem A ((i : Int) + 2) b = F (mixA k a b)
theorem mixA_up_lt {k j : Nat} (h : j < k) (a b : Asg) (x : Bool) : mixA k a (upA b j x) = mixA k a b := by
  funext i
  unfold mixA upA
  split
  · rfl
  · rw [if_neg (by omega)]
theorem mixA_up_ge {k j : Nat} (h : k ≤ j) (a b : Asg) (x : Bool) : mixA k a (upA b j x) = upA (mixA k a b) j x := by
  funext i
  unfold mixA upA
  by_cases h1 : i = j
  · subst h1; simp [Nat.not_lt.2 h]
  · simp [h1]
theorem mixA_upL {k j : Nat} (h : j < k) (a b : Asg) (x : Bool) : mixA k (upA a j x) b = upA (mixA k a b) j x := by
  funext i
  unfold mixA upA
  by_cases h1 : i = j
  · subst h1; simp [h]
  · simp [h1]
theorem mixA_zero (a b : Asg) : mixA 0 a b = b := rfl
theorem indep_mix {F : Fn} {k : Nat} (h : ∀ j, j < k → Indep F j) (a b : Asg) : F (mixA k a b) = F b := by
  have : ∀ m, m ≤ k → F (mixA m a b) = F b := by
    intro m
    induction m with
    | zero => intro _; rfl
    | succ m ih =>
      intro hm
      rw [← ih (by omega)]
      have : mixA (m + 1) a b = upA (mixA m a b) m (a m) := by
        funext i
        unfold mixA upA
        by_cases h1 : i = m
        · subst h1; simp
        · by_cases h2 : i < m
          · simp [h1, h2, show i < m + 1 by omega]
          · simp [h1, h2, show ¬ i < m + 1 by omega]
      rw [this]
      exact h m (by omega) _ _
  exact this k (Nat.le_refl _)
/-- What a node says hangs on its own level; so what it is needed for does. -/
theorem needed_level {n : Nat} {A : Ar} (h : BInv n A) {F : Fn} {i : Nat} {d : Nd} (hs : slot A i = some d) (hn : Needed A F i d) : ¬ Indep F d.l := fun hi => by
  obtain ⟨a, ha⟩ := hn
  refine dep_node h (id := (i : Int) + 2) (by rw [nd_slot]; exact hs) fun b x => ?_
  rw [ha, ha, mixA_up_ge (Nat.le_refl _)]
  exact hi _ _
/-- What is needed for F with a level turned is needed for F, if that hangs on nothing ahead. -/
theorem needed_up {n : Nat} {A : Ar} (h : BInv n A) {F : Fn} {k : Nat} {v : Bool} (hF : ∀ j, j < k → Indep F j) {i : Nat} {d : Nd} (hs : slot A i = some d) (hn : Needed A (fun b => F (upA b k v)) i d) : Needed A F i d := by
  have hlt : k < d.l := by
    rcases Nat.lt_or_ge k d.l with h1 | h1
    · exact h1
    · refine (needed_level h hs hn ?_).elim
      intro a b
      show F (upA (upA a d.l b) k v) = F (upA a k v)
      rcases Nat.eq_or_lt_of_le h1 with he | hlt
      · rw [he, upA_up]
      · rw [upA_comm a (by omega)]
        exact hF d.l hlt _ _
  obtain ⟨a, ha⟩ := hn
  exact ⟨upA a k v, fun b => by rw [ha, mixA_upL hlt]⟩
theorem lack_up {A : Ar} {F : Fn} {k : Nat} {v : Bool} (hF : ∀ j, j < k → Indep F j) (h : Lack A fun b => F (upA b k v)) : Lack A F := by
  obtain ⟨m, a, h1, h2⟩ := h
  have hlt : k < m := by
    rcases Nat.lt_or_ge k m with h3 | h3
    · exact h3
    · refine (h1 ?_).elim
      intro b x
      show F (upA (mixA m a (upA b m x)) k v) = F (upA (mixA m a b) k v)
      rw [mixA_up_ge (Nat.le_refl _)]
      rcases Nat.eq_or_lt_of_le h3 with he | hlt
      · rw [he, upA_up]
      · rw [upA_comm _ (by omega)]
        exact hF m hlt _ _
  refine ⟨m, upA a k v, fun hi => h1 fun b x => ?_, fun i d hs hh => h2 i d hs fun b => ?_⟩
  · have := hi b x
    simp only [mixA_upL hlt] at this
    exact this
  · rw [hh b, mixA_upL hlt]

theorem full_put {A : Ar} {n : Nd} (h : freeA A = A.length) : freeA (putA A n) = (putA A n).length := by
  have h1 := freeA_le (putA A n)
  rcases Nat.eq_or_lt_of_le h1 with h2 | h2
  · exact h2
  · have h3 := slot_free (putA A n)
    rw [slot_put] at h3
    split at h3
    · cases h3
    · rename_i hne
      rw [putA_length, if_pos h] at h2
      obtain ⟨d, hd⟩ := slot_before (A := A) (i := freeA (putA A n)) (by omega)
      rw [hd] at h3; cases h3
theorem full_live {A : Ar} (h : freeA A = A.length) : liveA A = A.length := by
  unfold liveA
  rw [List.countP_eq_length]
  intro x hx
  obtain ⟨i, hi, rfl⟩ := List.getElem_of_mem hx
  obtain ⟨d, hd⟩ := slot_before (A := A) (i := i) (by omega)
  have := slot_get hi
  rw [List.getElem?_eq_getElem hi] at this
  injection this with this
  rw [this, hd]; rfl
/-! ### What comes of making -/
structure Made (n : Nat) (room : Int) (A A' : Ar) (F : Fn) (id e : Int) : Prop where
  ext : Ext A A'
  inv : BInv n A'
  len : (A'.length : Int) ≤ max (A.length : Int) room
  need : ∀ i d, slot A' i = some d → slot A i = none → Needed A' F i d
  res : (e = 0 ∧ Rep A' id F) ∨ (e = 5 ∧ id = 0 ∧ room ≤ (liveA A' : Int) ∧ Lack A' F)
  full : freeA A = A.length → freeA A' = A'.length
theorem Made.refl {n : Nat} {room : Int} {A : Ar} {F : Fn} {id : Int} (h : BInv n A) (hr : Rep A id F) : Made n room A A F id 0 :=
  ⟨Ext.refl A, h, by omega, fun i d h1 h2 => (by rw [h1] at h2; cases h2), .inl ⟨rfl, hr⟩, fun h => h⟩
theorem Made.ok {n : Nat} {room : Int} {A A' : Ar} {F : Fn} {id : Int} (h : Made n room A A' F id 0) : Rep A' id F := by
  rcases h.res with ⟨_, h⟩ | ⟨h, _⟩
  · exact h
  · cases h
theorem Needed.ext {A A' : Ar} (hA : ArInv A) (hA' : ArInv A') (h : Ext A A') {F : Fn} {i : Nat} {d : Nd} (hs : slot A i = some d) (hn : Needed A F i d) : Needed A' F i d := by
  obtain ⟨a, ha⟩ := hn
  refine ⟨a, fun b => ?_⟩
  rw [h.sem hA hA' b _ (by rw [lvlA_slot hs]; omega), ha]
def nodeA (room : Int) (A : Ar) (k : Nat) (lo hi : Int) : Ar × Int × Int := if lo = hi then (A, lo, 0) else mkA room A k lo hi
/-- To make a node of two things that hang on no level up to it. -/
theorem made_node {n : Nat} {room : Int} {A : Ar} (h : BInv n A) {k : Nat} (hk : k < n) (hn : n ≤ 23) {lo hi : Int} {F : Fn} (hF : ∀ j, j < k → Indep F j) (hlo : Rep A lo fun b => F (upA b k false)) (hhi : Rep A hi fun b => F (upA b k true)) :
    Made n room A (nodeA room A k lo hi).1 F (nodeA room A k lo hi).2.1 (nodeA room A k lo hi).2.2 := by
  have hind : ∀ v, ∀ j, j ≤ k → Indep (fun b => F (upA b k v)) j := fun v j hj a b => by
    show F (upA (upA a j b) k v) = F (upA a k v)
    rcases Nat.eq_or_lt_of_le hj with he | hlt
    · rw [he, upA_up]
    · rw [upA_comm a (by omega)]
      exact hF j hlt _ _
  have h1 := rep_level h hlo (by omega) (hind false)
  have h2 := rep_level h hhi (by omega) (hind true)
  have h24 := lvlA_le h.inv
  have h0lo : 0 ≤ lo := by
    rcases lvlA_node hlo.there with e | e | ⟨i, _, e, _⟩ <;> omega
  have h0hi : 0 ≤ hi := by
    rcases lvlA_node hhi.there with e | e | ⟨i, _, e, _⟩ <;> omega
  have hsplit : ∀ b, F b = if b k then F (upA b k true) else F (upA b k false) := fun b => by
    cases hb : b k with
    | true => simp only [if_true]; rw [← hb, upA_self]
    | false => simp only [Bool.false_eq_true, if_false]; rw [← hb, upA_self]
  unfold nodeA
  split
  · rename_i he
    refine Made.refl h ⟨hlo.there, fun a => ?_⟩
    have e1 := hlo.says a
    have e2 := hhi.says a
    rw [← he] at e2
    rw [hsplit a]
    split
    · exact e2
    · exact e1
  · rename_i hne
    unfold mkA
    rw [if_neg (by omega)]
    have hnd : (⟨((k : Int)).toNat, lo.toNat, hi.toNat⟩ : Nd) = ⟨k, lo.toNat, hi.toNat⟩ := by simp
    rw [hnd]
    have elo : ((lo.toNat : Nat) : Int) = lo := by omega
    have ehi : ((hi.toNat : Nat) : Int) = hi := by omega
    have rep_of : ∀ (B : Ar) (i : Nat), ArInv B → Ext A B → slot B i = some ⟨k, lo.toNat, hi.toNat⟩ → Rep B ((i : Int) + 2) F := fun B i hB hx hs => by
      refine ⟨by rw [lvlA_slot hs]; exact Int.natCast_nonneg _, fun a => ?_⟩
      rw [sem_node hB (id := (i : Int) + 2) (by rw [nd_slot]; exact hs)]
      simp only [elo, ehi]
      rw [hsplit a]
      split
      · exact (hhi.ext h.inv hB hx).says a
      · exact (hlo.ext h.inv hB hx).says a
    cases hf : findA A ⟨k, lo.toNat, hi.toNat⟩ with
    | some i =>
      show Made n room A A F (((i + 2 : Nat) : Int)) 0
      refine Made.refl h ?_
      have := rep_of A i h.inv (Ext.refl A) (findA_slot hf)
      rwa [show (((i + 2 : Nat) : Int)) = (i : Int) + 2 by omega]
    | none =>
      simp only
      split
      · rename_i hfull
        show Made n room A A F 0 5
        refine ⟨Ext.refl A, h, by omega, fun i d a b => (by rw [a] at b; cases b), .inr ⟨rfl, rfl, hfull, k, fun _ => false, fun hi => ?_, fun i d hs hh => ?_⟩, fun h => h⟩
        · refine hne (rep_canon h hlo ⟨hhi.there, fun a => ?_⟩)
          have e1 := hi a true
          have e2 := hi a false
          simp only [indep_mix hF] at e1 e2
          rw [hhi.says, e1, e2]
        · have hh' : ∀ b, sem A ((i : Int) + 2) b = F b := fun b => by rw [hh b, indep_mix hF]
          have hd : ndA A ((i : Int) + 2) = some d := by rw [nd_slot]; exact hs
          have hl : d.l = k := by
            rcases Nat.lt_trichotomy d.l k with hlt | he | hgt
            · exact (dep_node h hd fun a b => by rw [hh', hh']; exact hF d.l hlt a b).elim
            · exact he
            · refine (hne (rep_canon h hlo ⟨hhi.there, fun a => ?_⟩)).elim
              rw [hhi.says, ← hh', ← hh', sem_up h.inv (by rw [nd_lvl hd]; omega), sem_up h.inv (by rw [nd_lvl hd]; omega)]
          have e1 : (d.lo : Int) = lo := canon h _ _ (by have := (lev_of h.inv hd).1; omega) hlo.there fun a => by rw [sem_lo h.inv hd, hh', hlo.says, hl]
          have e2 : (d.hi : Int) = hi := canon h _ _ (by have := (lev_of h.inv hd).2; omega) hhi.there fun a => by rw [sem_hi h.inv hd, hh', hhi.says, hl]
          obtain ⟨l, x, y⟩ := d
          simp only at hl e1 e2
          have : (⟨l, x, y⟩ : Nd) = ⟨k, lo.toNat, hi.toNat⟩ := by
            congr 1
            · omega
            · omega
          rw [this] at hs
          exact findA_none.1 hf i hs
      · rename_i hroom
        show Made n room A (putA A ⟨k, lo.toNat, hi.toNat⟩) F (((freeA A + 2 : Nat) : Int)) 0
        have hinv : ArInv (putA A ⟨k, lo.toNat, hi.toNat⟩) := inv_put h.inv hf (by simp only [elo]; exact h1) (by simp only [ehi]; exact h2)
        have hfs : slot (putA A ⟨k, lo.toNat, hi.toNat⟩) (freeA A) = some ⟨k, lo.toNat, hi.toNat⟩ := by rw [slot_put, if_pos rfl]
        have hrep := rep_of _ (freeA A) hinv ext_put hfs
        refine ⟨ext_put, ⟨hinv, fun i d hs => ?_, fun i d hs => ?_⟩, ?_, fun i d hs hn' => ?_, .inl ⟨rfl, ?_⟩, full_put⟩
        · rw [slot_put] at hs
          split at hs
          · injection hs with hs; subst hs; exact hk
          · exact h.lt i d hs
        · rw [slot_put] at hs
          split at hs
          · injection hs with hs; subst hs
            intro e
            simp only at e
            omega
          · exact h.ne i d hs
        · rw [putA_length]
          split
          · rename_i hfl
            have : liveA A = A.length := by
              unfold liveA
              rw [List.countP_eq_length]
              intro x hx
              obtain ⟨i, hi, rfl⟩ := List.getElem_of_mem hx
              obtain ⟨d, hd⟩ := slot_before (A := A) (i := i) (by omega)
              have := slot_get hi
              rw [List.getElem?_eq_getElem hi] at this
              injection this with this
              rw [this, hd]; rfl
            omega
          · omega
        · rw [slot_put] at hs
          split at hs
          · rename_i he
            subst he
            injection hs with hs; subst hs
            exact ⟨fun _ => false, fun b => by rw [hrep.says, indep_mix hF]⟩
          · rw [hs] at hn'; cases hn'
        · rwa [show (((freeA A + 2 : Nat) : Int)) = (freeA A : Int) + 2 by omega]
/-- Two things, then the node of both. -/
theorem made_both {n : Nat} {room : Int} {A A1 A2 : Ar} (hA : BInv n A) {k : Nat} (hk : k < n) (hn : n ≤ 23) {F : Fn} (hF : ∀ j, j < k → Indep F j) {lo hi : Int} (h1 : Made n room A A1 (fun b => F (upA b k false)) lo 0) (h2 : Made n room A1 A2 (fun b => F (upA b k true)) hi 0) :
    Made n room A (nodeA room A2 k lo hi).1 F (nodeA room A2 k lo hi).2.1 (nodeA room A2 k lo hi).2.2 := by
  have hlo := h1.ok.ext h1.inv.inv h2.inv.inv h2.ext
  have h3 := made_node (room := room) h2.inv hk hn hF hlo h2.ok
  generalize nodeA room A2 k lo hi = r at h3
  obtain ⟨A3, id, e⟩ := r
  refine ⟨(h1.ext.trans h2.ext).trans h3.ext, h3.inv, ?_, fun i d hs hn' => ?_, h3.res, fun h => h3.full (h2.full (h1.full h))⟩
  · have := h1.len; have := h2.len; have := h3.len; simp only at *; omega
  · simp only at h3 hs
    cases e2 : slot A2 i with
    | none => exact h3.need i d hs e2
    | some d2 =>
      have hd2 : d2 = d := by have := h3.ext i d2 e2; rw [hs] at this; injection this with this; exact this.symm
      subst hd2
      cases e1 : slot A1 i with
      | none => exact (needed_up h2.inv hF e2 (h2.need i d2 e2 e1)).ext h2.inv.inv h3.inv.inv h3.ext e2
      | some d1 =>
        have hd1 : d1 = d2 := by have := h2.ext i d1 e1; rw [e2] at this; injection this with this; exact this.symm
        subst hd1
        exact (needed_up h1.inv hF e1 (h1.need i d1 e1 hn')).ext h1.inv.inv h3.inv.inv (h2.ext.trans h3.ext) e1
/-- The first of two fails. -/
theorem made_lo {n : Nat} {room : Int} {A A1 : Ar} {k : Nat} {F : Fn} (hF : ∀ j, j < k → Indep F j) {v : Bool} {lo e : Int} (h1 : Made n room A A1 (fun b => F (upA b k v)) lo e) (he : e ≠ 0) : Made n room A A1 F 0 e := by
  refine ⟨h1.ext, h1.inv, h1.len, fun i d hs hn => needed_up h1.inv hF hs (h1.need i d hs hn), ?_, h1.full⟩
  rcases h1.res with ⟨h, _⟩ | ⟨h, _, hr, hl⟩
  · exact absurd h he
  · exact .inr ⟨h, rfl, hr, lack_up hF hl⟩
/-- The second of two fails. -/
theorem made_hi {n : Nat} {room : Int} {A A1 A2 : Ar} {k : Nat} {F : Fn} (hF : ∀ j, j < k → Indep F j) {lo hi e : Int} (h1 : Made n room A A1 (fun b => F (upA b k false)) lo 0) (h2 : Made n room A1 A2 (fun b => F (upA b k true)) hi e) (he : e ≠ 0) : Made n room A A2 F 0 e := by
  have h3 := made_lo hF h2 he
  refine ⟨h1.ext.trans h2.ext, h2.inv, ?_, fun i d hs hn => ?_, h3.res, fun h => h2.full (h1.full h)⟩
  · have := h1.len; have := h2.len; omega
  · cases e1 : slot A1 i with
    | none => exact h3.need i d hs e1
    | some d1 =>
      have hd1 : d1 = d := by have := h2.ext i d1 e1; rw [hs] at this; injection this with this; exact this.symm
      subst hd1
      exact (needed_up h1.inv hF e1 (h1.need i d1 e1 hn)).ext h1.inv.inv h2.inv.inv h2.ext e1
end Go.Dk
end

section
/- Decision diagrams: how many nodes a set needs, and how many are made. Plain Lean. -/
namespace Go.Dk

theorem len_subG {α : Type} [DecidableEq α] : ∀ {a b : List α}, a.Nodup → (∀ k ∈ a, k ∈ b) → a.length ≤ b.length
  | [], b, _, _ => Nat.zero_le _
  | k :: a, b, ha, h => by
    obtain ⟨hk, ha'⟩ := List.nodup_cons.1 ha
    have hb : k ∈ b := h k (.head _)
    have hlt := len_subG (b := b.erase k) ha' fun x hx => (List.mem_erase_of_ne (fun (e : x = k) => hk (by rw [← e]; exact hx))).2 (h x (.tail _ hx))
    rw [List.length_erase_of_mem hb] at hlt
    have := List.length_pos_of_mem hb
    simp only [List.length_cons]; omega
theorem nodup_mapOn {α β : Type} {f : α → β} : ∀ {l : List α}, l.Nodup → (∀ x ∈ l, ∀ y ∈ l, f x = f y → x = y) → (l.map f).Nodup
  | [], _, _ => .nil
  | x :: l, hn, h => by
    obtain ⟨h1, h2⟩ := List.nodup_cons.1 hn
    rw [List.map_cons, List.nodup_cons]
    refine ⟨fun hm => ?_, nodup_mapOn h2 fun a ha b hb => h a (.tail _ ha) b (.tail _ hb)⟩
    obtain ⟨y, hy, he⟩ := List.mem_map.1 hm
    have := h y (.tail _ hy) x (.head _) he
    subst this
    exact h1 hy

/-- What hangs on the levels below n alone. -/
def Low (n : Nat) (F : Fn) : Prop := ∀ a b : Asg, (∀ j, j < n → a j = b j) → F a = F b
theorem sem_low {n : Nat} {A : Ar} (h : BInv n A) (id : Int) : Low n (sem A id) := by
  intro a b hab
  have : ∀ id, sem A id a = sem A id b := by
    refine lvl_induct h.inv (fun id hd => ?_) (fun id d hd ih1 ih2 => ?_)
    · rw [sem_none hd, sem_none hd]
    · obtain ⟨i, _, hs⟩ := nd_place hd
      rw [sem_node h.inv hd, sem_node h.inv hd, hab d.l (h.lt i d hs)]
      split
      · exact ih2
      · exact ih1
  exact this id
theorem Low.indep {n : Nat} {F : Fn} (h : Low n F) {k : Nat} (hk : n ≤ k) : Indep F k := fun a b => h _ _ fun j hj => upA_ne a b (by omega)
theorem Low.mix {n : Nat} {F : Fn} (h : Low n F) (k : Nat) (a : Asg) : Low n fun b => F (mixA k a b) := fun b c hbc => h _ _ fun j hj => by
  unfold mixA; split
  · rfl
  · exact hbc j hj
theorem mix_indep {F : Fn} {k : Nat} (a : Asg) {j : Nat} (hj : j < k) : Indep (fun b => F (mixA k a b)) j := fun b x => by
  show F (mixA k a (upA b j x)) = F (mixA k a b)
  rw [mixA_up_lt hj]

/-! ### Rows -/
def shA (k w : Nat) : Asg := fun j => w.testBit (j - k)
def rowF (n k : Nat) (F : Fn) : List Bool := (List.range (2 ^ (n - k))).map fun w => F (shA k w)
def turnsB (r : List Bool) : Bool := (List.range (r.length / 2)).any fun t => r.getD (2 * t) false != r.getD (2 * t + 1) false
theorem rowF_length (n k : Nat) (F : Fn) : (rowF n k F).length = 2 ^ (n - k) := by simp [rowF]
theorem rowF_get {n k : Nat} {F : Fn} {w : Nat} (hw : w < 2 ^ (n - k)) : (rowF n k F).getD w false = F (shA k w) := by
  unfold rowF
  rw [List.getD_eq_getElem?_getD, List.getElem?_map, List.getElem?_range hw]; rfl
theorem row_at {n k : Nat} {F : Fn} (hF : Low n F) (hi : ∀ j, j < k → Indep F j) (b : Asg) : F b = F (shA k (mkSet (fun t => b (t + k)) (n - k))) := by
  have h1 : F b = F (mixA k b (shA k (mkSet (fun t => b (t + k)) (n - k)))) := hF _ _ fun j hj => by
    unfold mixA shA
    split
    · rfl
    · rename_i hjk
      rw [testBit_mkSet, decide_eq_true (by omega), Bool.true_and, show j - k + k = j by omega]
  rw [h1, indep_mix hi]
theorem row_fn {n k : Nat} {F G : Fn} (hF : Low n F) (hG : Low n G) (hiF : ∀ j, j < k → Indep F j) (hiG : ∀ j, j < k → Indep G j) (h : rowF n k F = rowF n k G) (b : Asg) : F b = G b := by
  have e1 := rowF_get (n := n) (k := k) (F := F) (w := mkSet (fun t => b (t + k)) (n - k)) (mkSet_lt _ _)
  have e2 := rowF_get (n := n) (k := k) (F := G) (w := mkSet (fun t => b (t + k)) (n - k)) (mkSet_lt _ _)
  rw [row_at hF hiF b, row_at hG hiG b, ← e1, ← e2, h]
theorem rowF_congr {n k : Nat} {F G : Fn} (h : ∀ b, F b = G b) : rowF n k F = rowF n k G := by
  have : F = G := funext h
  rw [this]
theorem turns_iff {n k : Nat} {F : Fn} (hF : Low n F) (hi : ∀ j, j < k → Indep F j) (hk : k < n) : turnsB (rowF n k F) = true ↔ ¬ Indep F k := by
  have hp : 2 ^ (n - k) = 2 * 2 ^ (n - k - 1) := by rw [← Nat.pow_succ']; congr 1; omega
  have hodd : ∀ t b : Nat, (b = 0 ∨ b = 1) → F (shA k (2 * t + b)) = F (upA (shA k (2 * t)) k (b == 1)) := fun t b hb => by
    have e1 := indep_mix hi (fun _ => false) (shA k (2 * t + b))
    have e2 := indep_mix hi (fun _ => false) (upA (shA k (2 * t)) k (b == 1))
    rw [← e1, ← e2]
    congr 1
    funext j
    unfold mixA
    split
    · rfl
    · rename_i hjk
      unfold shA upA
      by_cases hj : j = k
      · subst hj
        rw [if_pos rfl, Nat.sub_self, Nat.testBit_zero]
        rcases hb with rfl | rfl
        · simp
        · simp
      · rw [if_neg hj]
        obtain ⟨m, hm⟩ : ∃ m, j - k = m + 1 := ⟨j - k - 1, by omega⟩
        show (2 * t + b).testBit (j - k) = (2 * t).testBit (j - k)
        rw [hm, Nat.testBit_succ, Nat.testBit_succ]
        congr 1
        rcases hb with rfl | rfl <;> omega
  unfold turnsB
  rw [rowF_length, List.any_eq_true]
  constructor
  · rintro ⟨t, ht, hne⟩ hin
    have ht' := List.mem_range.1 ht
    rw [rowF_get (by omega), rowF_get (by omega), hodd t 1 (.inr rfl), hin] at hne
    simp at hne
  · intro hn
    refine Classical.byContradiction fun hno => hn ?_
    have key : ∀ a : Asg, F (upA a k false) = F (upA a k true) := fun a => by
      have ht : mkSet (fun t => a (t + k + 1)) (n - k - 1) < 2 ^ (n - k - 1) := mkSet_lt _ _
      have hb : ∀ v : Bool, F (upA a k v) = F (shA k (2 * mkSet (fun t => a (t + k + 1)) (n - k - 1) + v.toNat)) := fun v => by
        rw [row_at hF hi]
        congr 2
        refine Nat.eq_of_testBit_eq fun i => ?_
        rw [testBit_mkSet]
        cases i with
        | zero =>
          rw [decide_eq_true (by omega), Bool.true_and, Nat.zero_add, upA_same, Nat.testBit_zero]
          cases v <;> simp
        | succ i =>
          rw [Nat.testBit_succ, show (2 * mkSet (fun t => a (t + k + 1)) (n - k - 1) + v.toNat) / 2 = mkSet (fun t => a (t + k + 1)) (n - k - 1) by cases v <;> simp <;> omega, testBit_mkSet,
            upA_ne a v (by omega), show i + 1 + k = i + k + 1 by omega]
          congr 1
          exact decide_eq_decide.2 (by omega)
      generalize mkSet (fun t => a (t + k + 1)) (n - k - 1) = t at ht hb
      have hnt : ¬ ((rowF n k F).getD (2 * t) false != (rowF n k F).getD (2 * t + 1) false) = true := fun h => hno ⟨t, List.mem_range.2 (by omega), h⟩
      rw [rowF_get (by omega), rowF_get (by omega)] at hnt
      rw [hb false, hb true]
      simpa using hnt
    intro a x
    have h0 : ∀ v, F (upA a k v) = F (upA a k true) := fun v => by cases v; exact key a; rfl
    rw [h0 x, ← h0 (a k), upA_self]

/-! ### Sets as functions of levels -/
structure OrdO (o : List Nat) : Prop where
  nodup : o.Nodup
  lt : ∀ i ∈ o, i < o.length
  le : o.length ≤ 8
theorem OrdO.mem {o : List Nat} (h : OrdO o) {i : Nat} (hi : i < o.length) : i ∈ o := by
  refine Classical.byContradiction fun hn => ?_
  have h1 := len_subG (a := i :: o) (b := List.range o.length) (List.nodup_cons.2 ⟨hn, h.nodup⟩) fun k hk => by
    rcases List.mem_cons.1 hk with rfl | hk
    · exact List.mem_range.2 hi
    · exact List.mem_range.2 (h.lt k hk)
  simp at h1
  omega
theorem OrdO.idx_lt {o : List Nat} (h : OrdO o) {i : Nat} (hi : i < o.length) : o.idxOf i < o.length := List.idxOf_lt_length_iff.2 (h.mem hi)
theorem OrdO.get_idx {o : List Nat} (h : OrdO o) {i : Nat} (hi : i < o.length) : o.getD (o.idxOf i) 0 = i := by
  rw [List.getD_eq_getElem?_getD, List.getElem?_eq_getElem (h.idx_lt hi)]
  exact List.getElem_idxOf (h.idx_lt hi)
theorem OrdO.get_lt {o : List Nat} (h : OrdO o) {k : Nat} (hk : k < o.length) : o.getD k 0 < o.length := by
  rw [List.getD_eq_getElem?_getD, List.getElem?_eq_getElem hk]
  exact h.lt _ (List.getElem_mem hk)
theorem OrdO.inj {o : List Nat} (h : OrdO o) {j k : Nat} (hj : j < o.length) (hk : k < o.length) (he : o.getD j 0 = o.getD k 0) : j = k := by
  rw [List.getD_eq_getElem?_getD, List.getElem?_eq_getElem hj, List.getD_eq_getElem?_getD, List.getElem?_eq_getElem hk] at he
  refine (List.getElem?_inj hj h.nodup).1 ?_
  rw [List.getElem?_eq_getElem hj, List.getElem?_eq_getElem hk]
  exact congrArg some he
theorem OrdO.idx_get {o : List Nat} (h : OrdO o) {k : Nat} (hk : k < o.length) : o.idxOf (o.getD k 0) = k :=
  h.inj (h.idx_lt (h.get_lt hk)) hk (h.get_idx (h.get_lt hk))
/-- The point of levels that are turned. -/
def ptA (o : List Nat) (a : Asg) : Nat := mkSet (fun i => a (o.idxOf i)) o.length
def asgP (o : List Nat) (p : Nat) : Asg := fun k => decide (k < o.length) && p.testBit (o.getD k 0)
theorem ptA_lt (o : List Nat) (a : Asg) : ptA o a < 2 ^ o.length := mkSet_lt _ _
theorem testBit_ptA {o : List Nat} (a : Asg) {i : Nat} (hi : i < o.length) : (ptA o a).testBit i = a (o.idxOf i) := by
  unfold ptA; rw [testBit_mkSet, decide_eq_true hi, Bool.true_and]
theorem pt_asg {o : List Nat} (h : OrdO o) {p : Nat} (hp : p < 2 ^ o.length) : ptA o (asgP o p) = p := by
  refine Nat.eq_of_testBit_eq fun i => ?_
  by_cases hi : i < o.length
  · rw [testBit_ptA _ hi]
    unfold asgP
    rw [decide_eq_true (h.idx_lt hi), Bool.true_and, h.get_idx hi]
  · rw [Nat.testBit_lt_two_pow (Nat.lt_of_lt_of_le (ptA_lt _ _) (Nat.pow_le_pow_right (by decide) (by omega))), Nat.testBit_lt_two_pow (Nat.lt_of_lt_of_le hp (Nat.pow_le_pow_right (by decide) (by omega)))]
theorem asg_pt {o : List Nat} (h : OrdO o) (a : Asg) {k : Nat} (hk : k < o.length) : asgP o (ptA o a) k = a k := by
  unfold asgP
  rw [decide_eq_true hk, Bool.true_and, testBit_ptA _ (h.get_lt hk), h.idx_get hk]
theorem ptA_congr {o : List Nat} (h : OrdO o) {a b : Asg} (hab : ∀ k, k < o.length → a k = b k) : ptA o a = ptA o b := by
  refine Nat.eq_of_testBit_eq fun i => ?_
  unfold ptA
  rw [testBit_mkSet, testBit_mkSet]
  by_cases hi : i < o.length
  · rw [hab _ (h.idx_lt hi)]
  · rw [decide_eq_false hi]; rfl
/-- What a set says of levels. -/
def FnS (o : List Nat) (s : Nat) : Fn := fun a => s.testBit (ptA o a)
theorem FnS_low {o : List Nat} (h : OrdO o) (s : Nat) : Low o.length (FnS o s) := fun a b hab => by unfold FnS; rw [ptA_congr h hab]
/-- The set that an id says. -/
def setD (o : List Nat) (A : Ar) (id : Int) : Nat := setOf fun p => decide (p < 2 ^ o.length) && sem A id (asgP o p)
theorem setD_lt (o : List Nat) (A : Ar) (id : Int) : setD o A id < 2 ^ 256 := setOf_lt _
theorem pow_le_256 {n : Nat} (h : n ≤ 8) : 2 ^ n ≤ 256 := Nat.pow_le_pow_right (n := 2) (by decide) h
theorem setD_rep {o : List Nat} (h : OrdO o) {A : Ar} {id : Int} {F : Fn} (hr : Rep A id F) {s : Nat} (hs : s < 2 ^ 256) (hw : ∀ p, s.testBit p = true → p < 2 ^ o.length) (hF : ∀ p, p < 2 ^ o.length → F (asgP o p) = s.testBit p) : setD o A id = s := by
  refine set_ext (setOf_lt _) hs fun p hp => ?_
  unfold setD
  rw [testBit_setOf, decide_eq_true hp, Bool.true_and]
  by_cases hpn : p < 2 ^ o.length
  · rw [decide_eq_true hpn, Bool.true_and, hr.says, hF p hpn]
  · rw [decide_eq_false hpn, Bool.false_and]
    symm
    rw [Bool.eq_false_iff]
    exact fun hh => hpn (hw p hh)
theorem FnS_asg {o : List Nat} (h : OrdO o) (s : Nat) {p : Nat} (hp : p < 2 ^ o.length) : FnS o s (asgP o p) = s.testBit p := by unfold FnS; rw [pt_asg h hp]
theorem FnS_inj {o : List Nat} (h : OrdO o) {s t : Nat} (hs : s < 2 ^ 256) (ht : t < 2 ^ 256) (hsw : ∀ p, s.testBit p = true → p < 2 ^ o.length) (htw : ∀ p, t.testBit p = true → p < 2 ^ o.length) (he : ∀ a, FnS o s a = FnS o t a) : s = t := by
  refine set_ext hs ht fun p hp => ?_
  by_cases hpn : p < 2 ^ o.length
  · rw [← FnS_asg h s hpn, ← FnS_asg h t hpn, he]
  · rw [Bool.eq_false_iff.2 fun hh => hpn (hsw p hh), Bool.eq_false_iff.2 fun hh => hpn (htw p hh)]

/-! ### How many nodes are needed -/
def rowS (o : List Nat) (s k ahead : Nat) : List Bool := rowF o.length k fun b => FnS o s (mixA k (fun j => ahead.testBit j) b)
/-- Rows met, each once, that turn. -/
def metTo (o : List Nat) (s k : Nat) : Nat → List (List Bool)
  | 0 => []
  | m + 1 => if turnsB (rowS o s k m) && !(metTo o s k m).contains (rowS o s k m) then metTo o s k m ++ [rowS o s k m] else metTo o s k m
def metS (o : List Nat) (s k : Nat) : List (List Bool) := metTo o s k (2 ^ k)
def sizeTo (o : List Nat) (s : Nat) : Nat → Nat
  | 0 => 0
  | k + 1 => sizeTo o s k + (metS o s k).length
def sizeS (o : List Nat) (s : Nat) : Nat := sizeTo o s o.length
theorem mem_metTo {o : List Nat} {s k : Nat} {r : List Bool} : ∀ {m : Nat}, r ∈ metTo o s k m ↔ ∃ x, x < m ∧ r = rowS o s k x ∧ turnsB r = true
  | 0 => by simp [metTo]
  | m + 1 => by
    unfold metTo
    have ih := mem_metTo (o := o) (s := s) (k := k) (r := r) (m := m)
    split
    · rename_i hc
      simp only [Bool.and_eq_true] at hc
      rw [List.mem_append, ih, List.mem_singleton]
      constructor
      · rintro (⟨x, hx, h1, h2⟩ | rfl)
        · exact ⟨x, by omega, h1, h2⟩
        · exact ⟨m, by omega, rfl, hc.1⟩
      · rintro ⟨x, hx, h1, h2⟩
        rcases Nat.lt_or_ge x m with hlt | hge
        · exact .inl ⟨x, hlt, h1, h2⟩
        · obtain rfl : x = m := by omega
          exact .inr h1
    · rename_i hc
      rw [ih]
      constructor
      · rintro ⟨x, hx, h1, h2⟩; exact ⟨x, by omega, h1, h2⟩
      · rintro ⟨x, hx, h1, h2⟩
        rcases Nat.lt_or_ge x m with hlt | hge
        · exact ⟨x, hlt, h1, h2⟩
        · obtain rfl : x = m := by omega
          subst h1
          rw [h2, Bool.true_and] at hc
          have hcon : (metTo o s k x).contains (rowS o s k x) = true := by simpa using hc
          rw [List.contains_iff_mem] at hcon
          have := (mem_metTo (o := o) (s := s) (k := k) (m := x)).1 hcon
          exact this
theorem metTo_nodup (o : List Nat) (s k : Nat) : ∀ m, (metTo o s k m).Nodup
  | 0 => .nil
  | m + 1 => by
    unfold metTo
    split
    · rename_i hc
      simp only [Bool.and_eq_true, Bool.not_eq_true'] at hc
      refine List.nodup_append.2 ⟨metTo_nodup o s k m, List.nodup_cons.2 ⟨by simp, .nil⟩, fun a ha b hb e => ?_⟩
      obtain rfl := List.mem_singleton.1 hb
      subst e
      have := List.contains_iff_mem.2 ha
      rw [hc.2] at this; cases this
    · exact metTo_nodup o s k m
/-- All places, with their rows. -/
def needL (o : List Nat) (s : Nat) : Nat → List (Nat × List Bool)
  | 0 => []
  | k + 1 => needL o s k ++ (metS o s k).map fun r => (k, r)
theorem needL_length (o : List Nat) (s : Nat) : ∀ k, (needL o s k).length = sizeTo o s k
  | 0 => rfl
  | k + 1 => by unfold needL sizeTo; rw [List.length_append, List.length_map, needL_length o s k]
theorem mem_needL {o : List Nat} {s : Nat} {k : Nat} {r : List Bool} : ∀ {m : Nat}, (k, r) ∈ needL o s m ↔ k < m ∧ r ∈ metS o s k
  | 0 => by simp [needL]
  | m + 1 => by
    unfold needL
    rw [List.mem_append, mem_needL (m := m), List.mem_map]
    constructor
    · rintro (⟨h1, h2⟩ | ⟨r', h1, h2⟩)
      · exact ⟨by omega, h2⟩
      · injection h2 with e1 e2
        subst e1; subst e2
        exact ⟨by omega, h1⟩
    · rintro ⟨h1, h2⟩
      rcases Nat.lt_or_ge k m with hlt | hge
      · exact .inl ⟨hlt, h2⟩
      · obtain rfl : k = m := by omega
        exact .inr ⟨r, h2, rfl⟩
theorem needL_nodup (o : List Nat) (s : Nat) : ∀ k, (needL o s k).Nodup
  | 0 => .nil
  | k + 1 => by
    unfold needL
    refine List.nodup_append.2 ⟨needL_nodup o s k, nodup_mapOn (metTo_nodup o s k _) fun a _ b _ e => by injection e, fun a ha b hb e => ?_⟩
    obtain ⟨r, _, rfl⟩ := List.mem_map.1 hb
    subst e
    have := (mem_needL.1 ha).1
    omega
/-- A node's place and row. -/
def codeN (n : Nat) (A : Ar) (i : Nat) : Nat × List Bool := match slot A i with | some d => (d.l, rowF n d.l (sem A ((i : Int) + 2))) | none => (0, [])
theorem code_some {n : Nat} {A : Ar} {i : Nat} {d : Nd} (h : slot A i = some d) : codeN n A i = (d.l, rowF n d.l (sem A ((i : Int) + 2))) := by unfold codeN; rw [h]
theorem sem_below {A : Ar} (h : ArInv A) {i : Nat} {d : Nd} (hs : slot A i = some d) {j : Nat} (hj : j < d.l) : Indep (sem A ((i : Int) + 2)) j :=
  fun a b => sem_up h (by rw [lvlA_slot hs]; omega) a b
theorem code_inj {n : Nat} {A : Ar} (h : BInv n A) {i j : Nat} {d d' : Nd} (hi : slot A i = some d) (hj : slot A j = some d') (he : codeN n A i = codeN n A j) : i = j := by
  rw [code_some hi, code_some hj] at he
  injection he with e1 e2
  rw [← e1] at e2
  have := canon h ((i : Int) + 2) ((j : Int) + 2) (by rw [lvlA_slot hi]; omega) (by rw [lvlA_slot hj]; omega)
    (row_fn (sem_low h _) (sem_low h _) (fun k hk => sem_below h.inv hi hk) (fun k hk => sem_below h.inv hj (by omega)) e2)
  omega
/-- A row of a set, by any levels ahead. -/
theorem rowS_of (o : List Nat) (s k : Nat) (a : Asg) : rowS o s k (mkSet a k) = rowF o.length k fun b => FnS o s (mixA k a b) := by
  unfold rowS
  refine rowF_congr fun b => ?_
  congr 1
  funext j
  unfold mixA
  split
  · rename_i hj
    show (mkSet a k).testBit j = a j
    rw [testBit_mkSet, decide_eq_true hj, Bool.true_and]
  · rfl
theorem need_mem {o : List Nat} (ho : OrdO o) {s k : Nat} (hk : k < o.length) (a : Asg) (ht : ¬ Indep (fun b => FnS o s (mixA k a b)) k) : (k, rowF o.length k fun b => FnS o s (mixA k a b)) ∈ needL o s o.length := by
  refine mem_needL.2 ⟨hk, mem_metTo.2 ⟨mkSet a k, mkSet_lt _ _, (rowS_of o s k a).symm, ?_⟩⟩
  exact (turns_iff ((FnS_low ho s).mix k a) (fun j hj => mix_indep a hj) hk).2 ht
theorem needed_code {o : List Nat} (ho : OrdO o) {A : Ar} (h : BInv o.length A) {s : Nat} {i : Nat} {d : Nd} (hs : slot A i = some d) (hn : Needed A (FnS o s) i d) : codeN o.length A i ∈ needL o s o.length := by
  obtain ⟨a, ha⟩ := hn
  rw [code_some hs, rowF_congr ha]
  refine need_mem ho (h.lt i d hs) a fun hi => dep_node h (id := (i : Int) + 2) (by rw [nd_slot]; exact hs) fun b x => ?_
  rw [ha, ha]; exact hi b x
/-- Nodes that are needed are no more than the set needs. -/
theorem needed_count {o : List Nat} (ho : OrdO o) {A : Ar} (h : BInv o.length A) {s : Nat} {P : List Nat} (hP : P.Nodup) (hn : ∀ i ∈ P, ∃ d, slot A i = some d ∧ Needed A (FnS o s) i d) : P.length ≤ sizeS o s := by
  have := len_subG (a := P.map (codeN o.length A)) (b := needL o s o.length) (nodup_mapOn hP fun x hx y hy e => by
    obtain ⟨d, hd, _⟩ := hn x hx
    obtain ⟨d', hd', _⟩ := hn y hy
    exact code_inj h hd hd' e) fun c hc => by
    obtain ⟨i, hi, rfl⟩ := List.mem_map.1 hc
    obtain ⟨d, hd, hnd⟩ := hn i hi
    exact needed_code ho h hd hnd
  rw [List.length_map, needL_length] at this
  exact this
theorem lack_count {o : List Nat} (ho : OrdO o) {A : Ar} (h : BInv o.length A) {s : Nat} {P : List Nat} (hP : P.Nodup) (hn : ∀ i ∈ P, ∃ d, slot A i = some d ∧ Needed A (FnS o s) i d) (hl : Lack A (FnS o s)) : P.length < sizeS o s := by
  obtain ⟨k, a, ht, hno⟩ := hl
  have hk : k < o.length := Nat.lt_of_not_le fun hle => ht (((FnS_low ho s).mix k a).indep hle)
  have := len_subG (a := (k, rowF o.length k fun b => FnS o s (mixA k a b)) :: P.map (codeN o.length A)) (b := needL o s o.length) (List.nodup_cons.2 ⟨fun hm => by
      obtain ⟨i, hi, he⟩ := List.mem_map.1 hm
      obtain ⟨d, hd, _⟩ := hn i hi
      rw [code_some hd] at he
      injection he with e1 e2
      rw [e1] at e2
      exact hno i d hd (row_fn (sem_low h _) ((FnS_low ho s).mix k a) (fun j hj => sem_below h.inv hd (by omega)) (fun j hj => mix_indep a hj) e2), nodup_mapOn hP fun x hx y hy e => by
      obtain ⟨d, hd, _⟩ := hn x hx
      obtain ⟨d', hd', _⟩ := hn y hy
      exact code_inj h hd hd' e⟩) fun c hc => by
    rcases List.mem_cons.1 hc with rfl | hc
    · exact need_mem ho hk a ht
    · obtain ⟨i, hi, rfl⟩ := List.mem_map.1 hc
      obtain ⟨d, hd, hnd⟩ := hn i hi
      exact needed_code ho h hd hnd
  rw [List.length_cons, List.length_map, needL_length] at this
  exact this
/-- What is come to is needed. -/
theorem reach_needed {n : Nat} {A : Ar} (h : BInv n A) {id : Int} {x : Nat} (hr : Rch A id x) : ∃ d, slot A x = some d ∧ Needed A (sem A id) x d := by
  have self : ∀ (i : Nat) (d : Nd), slot A i = some d → Needed A (sem A ((i : Int) + 2)) i d := fun i d hs =>
    ⟨fun _ => false, fun b => (indep_mix (fun j hj => sem_below h.inv hs hj) _ b).symm⟩
  induction hr with
  | self hs => exact ⟨_, hs, self _ _ hs⟩
  | @lo i x d hs _ ih =>
    obtain ⟨d', hd', hn⟩ := ih
    refine ⟨d', hd', needed_up h (k := d.l) (v := false) (fun j hj => sem_below h.inv hs hj) hd' ?_⟩
    obtain ⟨a, ha⟩ := hn
    exact ⟨a, fun b => by rw [ha b, sem_lo h.inv (id := (i : Int) + 2) (by rw [nd_slot]; exact hs)]⟩
  | @hi i x d hs _ ih =>
    obtain ⟨d', hd', hn⟩ := ih
    refine ⟨d', hd', needed_up h (k := d.l) (v := true) (fun j hj => sem_below h.inv hs hj) hd' ?_⟩
    obtain ⟨a, ha⟩ := hn
    exact ⟨a, fun b => by rw [ha b, sem_hi h.inv (id := (i : Int) + 2) (by rw [nd_slot]; exact hs)]⟩
/-- What an id needs is come to. -/
theorem needed_reach {n : Nat} {A : Ar} (h : BInv n A) {k : Nat} (a : Asg) : ∀ id : Int, ¬ Indep (fun b => sem A id (mixA k a b)) k →
    ∃ i d, Rch A id i ∧ slot A i = some d ∧ d.l = k ∧ ∀ b, sem A ((i : Int) + 2) b = sem A id (mixA k a b) := by
  refine lvl_induct h.inv (fun id hd ht => (ht fun b x => by show sem A id _ = sem A id _; rw [sem_none hd, sem_none hd]).elim) (fun id d hd ih1 ih2 ht => ?_)
  obtain ⟨i, rfl, hs⟩ := nd_place hd
  have hlev := lev_of h.inv hd
  rcases Nat.lt_trichotomy d.l k with hlt | he | hgt
  · have hstep : ∀ b, sem A ((i : Int) + 2) (mixA k a b) = sem A (if a d.l then (d.hi : Int) else (d.lo : Int)) (mixA k a b) := fun b => by
      rw [sem_node h.inv hd]
      have : mixA k a b d.l = a d.l := by unfold mixA; rw [if_pos hlt]
      rw [this]
    have hf : (fun b => sem A ((i : Int) + 2) (mixA k a b)) = fun b => sem A (if a d.l then (d.hi : Int) else (d.lo : Int)) (mixA k a b) := funext hstep
    rw [hf] at ht
    cases hal : a d.l with
    | true =>
      simp only [hal, if_true] at ht hstep
      obtain ⟨j, d', h1, h2, h3, h4⟩ := ih2 ht
      exact ⟨j, d', .hi hs h1, h2, h3, fun b => by rw [h4, hstep]⟩
    | false =>
      simp only [hal, Bool.false_eq_true, if_false] at ht hstep
      obtain ⟨j, d', h1, h2, h3, h4⟩ := ih1 ht
      exact ⟨j, d', .lo hs h1, h2, h3, fun b => by rw [h4, hstep]⟩
  · exact ⟨i, d, .self hs, hs, he, fun b => (indep_mix (fun j hj => sem_below h.inv hs (by omega)) a b).symm⟩
  · refine (ht fun b x => ?_).elim
    show sem A ((i : Int) + 2) (mixA k a (upA b k x)) = sem A ((i : Int) + 2) (mixA k a b)
    rw [indep_mix (fun j hj => sem_below h.inv hs (by omega)), indep_mix (fun j hj => sem_below h.inv hs (by omega))]
    exact sem_below h.inv hs hgt b x
/-- What is come to from a set's id is as much as the set needs. -/
theorem reach_count {o : List Nat} (ho : OrdO o) {A : Ar} (h : BInv o.length A) {s : Nat} {id : Int} (hr : Rep A id (FnS o s)) {P : List Nat} (hP : P.Nodup) (hm : ∀ x, x ∈ P ↔ Rch A id x) : P.length = sizeS o s := by
  have hf : sem A id = FnS o s := funext hr.says
  refine Nat.le_antisymm (needed_count ho h hP fun i hi => ?_) ?_
  · have := reach_needed h ((hm i).1 hi)
    rwa [hf] at this
  · have := len_subG (a := needL o s o.length) (b := P.map (codeN o.length A)) (needL_nodup o s _) fun c hc => by
      obtain ⟨k, r⟩ := c
      obtain ⟨hk, hr'⟩ := mem_needL.1 hc
      obtain ⟨x, _, he, ht⟩ := mem_metTo.1 hr'
      subst he
      have ht' := (turns_iff ((FnS_low ho s).mix k _) (fun j hj => mix_indep _ hj) hk).1 ht
      rw [← hf] at ht'
      obtain ⟨i, d, h1, h2, h3, h4⟩ := needed_reach h _ id ht'
      refine List.mem_map.2 ⟨i, (hm i).2 h1, ?_⟩
      rw [code_some h2, h3]
      congr 1
      unfold rowS
      exact rowF_congr fun b => by rw [h4, hf]
    rw [List.length_map, needL_length] at this
    exact this

/-! ### How many are made -/
/-- What hangs on the levels of a list alone. -/
def Hangs (D : List Nat) (F : Fn) : Prop := ∀ a b : Asg, (∀ j ∈ D, a j = b j) → F a = F b
theorem Hangs.indep {D : List Nat} {F : Fn} (h : Hangs D F) {k : Nat} (hk : k ∉ D) : Indep F k := fun a b => h _ _ fun j hj => upA_ne a b fun e => hk (e ▸ hj)
def bel (D : List Nat) (k : Nat) : List Nat := D.filter fun j => decide (j < k)
def codeA (D : List Nat) (k : Nat) (a : Asg) : Nat := 2 ^ (bel D k).length + mkSet (fun t => a ((bel D k).getD t 0)) (bel D k).length
theorem bel_lt {D : List Nat} {k k' : Nat} (hk : k ∈ D) (h : k < k') : (bel D k).length < (bel D k').length := by
  unfold bel
  rw [← List.countP_eq_length_filter, ← List.countP_eq_length_filter]
  induction D with
  | nil => cases hk
  | cons x D ih =>
    have hmono : D.countP (fun j => decide (j < k)) ≤ D.countP fun j => decide (j < k') := List.countP_mono_left fun x _ hx => by simp only [decide_eq_true_eq] at hx ⊢; omega
    rw [List.countP_cons, List.countP_cons]
    rcases List.mem_cons.1 hk with rfl | hk
    · rw [decide_eq_false (Nat.lt_irrefl k), decide_eq_true h]; simp only [Bool.false_eq_true, if_false, if_true]; omega
    · have := ih hk
      by_cases h1 : x < k
      · rw [decide_eq_true h1, decide_eq_true (show x < k' by omega)]; simp only [if_true]; omega
      · rw [decide_eq_false h1]; simp only [Bool.false_eq_true, if_false]; split <;> omega
theorem bel_le {D : List Nat} {k : Nat} (hk : k ∈ D) : (bel D k).length < D.length := by
  have : ∀ D : List Nat, k ∈ D → (D.filter fun j => decide (j < k)).length < D.length := by
    intro D hk
    rw [List.length_filter_lt_length_iff_exists]
    exact ⟨k, hk, by simp⟩
  exact this D hk
theorem codeA_lt {D : List Nat} {k : Nat} (hk : k ∈ D) (a : Asg) : 0 < codeA D k a ∧ codeA D k a < 2 ^ D.length := by
  have h1 : mkSet (fun t => a ((bel D k).getD t 0)) (bel D k).length < 2 ^ (bel D k).length := mkSet_lt _ _
  have h2 := Nat.pow_le_pow_right (show 0 < 2 by decide) (show (bel D k).length + 1 ≤ D.length from bel_le hk)
  rw [Nat.pow_succ] at h2
  have := Nat.one_le_two_pow (n := (bel D k).length)
  unfold codeA
  omega
theorem pow_split {j j' x x' : Nat} (h1 : x < 2 ^ j) (h2 : x' < 2 ^ j') (he : 2 ^ j + x = 2 ^ j' + x') : j = j' ∧ x = x' := by
  rcases Nat.lt_trichotomy j j' with hlt | rfl | hlt
  · have := Nat.pow_le_pow_right (show 0 < 2 by decide) (show j + 1 ≤ j' from hlt)
    rw [Nat.pow_succ] at this; omega
  · exact ⟨rfl, by omega⟩
  · have := Nat.pow_le_pow_right (show 0 < 2 by decide) (show j' + 1 ≤ j from hlt)
    rw [Nat.pow_succ] at this; omega
theorem codeA_inj {D : List Nat} {k k' : Nat} (hk : k ∈ D) (hk' : k' ∈ D) {a a' : Asg} (he : codeA D k a = codeA D k' a') : k = k' ∧ ∀ j ∈ D, j < k → a j = a' j := by
  obtain ⟨e1, e2⟩ := pow_split (mkSet_lt _ _) (mkSet_lt _ _) he
  have hkk : k = k' := by
    rcases Nat.lt_trichotomy k k' with h | h | h
    · have := bel_lt hk h; omega
    · exact h
    · have := bel_lt hk' h; omega
  subst hkk
  refine ⟨rfl, fun j hj hjk => ?_⟩
  have hm : j ∈ bel D k := List.mem_filter.2 ⟨hj, by simpa using hjk⟩
  obtain ⟨t, ht, rfl⟩ := List.getElem_of_mem hm
  have := congrArg (fun m => m.testBit t) e2
  simp only [testBit_mkSet, decide_eq_true ht, Bool.true_and, List.getD_eq_getElem?_getD, List.getElem?_eq_getElem ht] at this
  exact this
/-- Nodes of one diagram that are needed for one thing, which hangs on few levels, are few. -/
theorem needed_few {n : Nat} {A : Ar} (h : BInv n A) {F : Fn} {D : List Nat} (hD : Hangs D F) {P : List Nat} (hP : P.Nodup) (hn : ∀ i ∈ P, ∃ d, slot A i = some d ∧ Needed A F i d) : P.length ≤ 2 ^ D.length - 1 := by
  classical
  have hch : ∀ i, ∃ c : Nat, i ∈ P → ∃ d a, slot A i = some d ∧ d.l ∈ D ∧ (∀ b, sem A ((i : Int) + 2) b = F (mixA d.l a b)) ∧ c = codeA D d.l a := fun i => by
    by_cases hi : i ∈ P
    · obtain ⟨d, hd, a, ha⟩ := hn i hi
      refine ⟨codeA D d.l a, fun _ => ⟨d, a, hd, ?_, ha, rfl⟩⟩
      exact Classical.byContradiction fun hno => needed_level h hd ⟨a, ha⟩ (hD.indep hno)
    · exact ⟨0, fun hh => absurd hh hi⟩
  let f : Nat → Nat := fun i => Classical.choose (hch i)
  have hf : ∀ i ∈ P, ∃ d a, slot A i = some d ∧ d.l ∈ D ∧ (∀ b, sem A ((i : Int) + 2) b = F (mixA d.l a b)) ∧ f i = codeA D d.l a := fun i hi => Classical.choose_spec (hch i) hi
  have := len_subG (a := P.map f) (b := (List.range (2 ^ D.length - 1)).map (· + 1)) (nodup_mapOn hP fun x hx y hy e => by
    obtain ⟨d, a, h1, h2, h3, h4⟩ := hf x hx
    obtain ⟨d', a', h1', h2', h3', h4'⟩ := hf y hy
    rw [h4, h4'] at e
    obtain ⟨e1, e2⟩ := codeA_inj h2 h2' e
    have := canon h ((x : Int) + 2) ((y : Int) + 2) (by rw [lvlA_slot h1]; omega) (by rw [lvlA_slot h1']; omega) fun b => by
      rw [h3, h3', ← e1]
      refine hD _ _ fun j hj => ?_
      unfold mixA
      split
      · rename_i hjk; exact e2 j hj hjk
      · rfl
    omega) fun c hc => by
    obtain ⟨i, hi, rfl⟩ := List.mem_map.1 hc
    obtain ⟨d, a, h1, h2, h3, h4⟩ := hf i hi
    have := codeA_lt h2 a
    rw [h4]
    exact List.mem_map.2 ⟨codeA D d.l a - 1, List.mem_range.2 (by omega), by omega⟩
  simpa using this
def newP (A A' : Ar) : List Nat := (List.range A'.length).filter fun i => (slot A' i).isSome && (slot A i).isNone
theorem newP_nodup (A A' : Ar) : (newP A A').Nodup := List.nodup_range.sublist List.filter_sublist
theorem mem_newP {A A' : Ar} {i : Nat} : i ∈ newP A A' ↔ (∃ d, slot A' i = some d) ∧ slot A i = none := by
  unfold newP
  rw [List.mem_filter, List.mem_range, Bool.and_eq_true, Option.isSome_iff_exists, Option.isNone_iff_eq_none]
  constructor
  · rintro ⟨_, h⟩; exact h
  · rintro ⟨⟨d, h1⟩, h2⟩; exact ⟨slot_lt h1, ⟨d, h1⟩, h2⟩
theorem live_range (A : Ar) : ∀ m, A.length ≤ m → liveA A = ((List.range m).filter fun i => (slot A i).isSome).length := by
  intro m hm
  have h1 : ∀ k, k ≤ A.length → (A.take k).countP (·.isSome) = ((List.range k).filter fun i => (slot A i).isSome).length := by
    intro k
    induction k with
    | zero => intro _; rfl
    | succ k ih =>
      intro hk
      rw [List.range_succ, List.filter_append, List.length_append, ← ih (by omega), List.take_add_one, slot_get (by omega), List.countP_append]
      congr 1
      cases hs : slot A k <;> simp [hs]
  have h2 : ∀ d, ((List.range (A.length + d)).filter fun i => (slot A i).isSome).length = ((List.range A.length).filter fun i => (slot A i).isSome).length := by
    intro d
    induction d with
    | zero => rfl
    | succ d ih =>
      rw [← Nat.add_assoc, List.range_succ, List.filter_append, List.length_append, ih]
      have : slot A (A.length + d) = none := slot_none (by omega)
      simp [this]
  have := h1 A.length (Nat.le_refl _)
  rw [List.take_length] at this
  obtain ⟨d, rfl⟩ : ∃ d, m = A.length + d := ⟨m - A.length, by omega⟩
  rw [h2, ← this]; rfl
theorem live_ext {A A' : Ar} (h : Ext A A') : liveA A' = liveA A + (newP A A').length := by
  have hlen : A.length ≤ max A.length A'.length := by omega
  rw [live_range A (max A.length A'.length) (by omega), live_range A' (max A.length A'.length) (by omega)]
  have hnew : (newP A A').length = ((List.range (max A.length A'.length)).filter fun i => (slot A' i).isSome && (slot A i).isNone).length := by
    refine Nat.le_antisymm (len_subG (newP_nodup A A') fun i hi => ?_) (len_subG (List.nodup_range.sublist List.filter_sublist) fun i hi => ?_)
    · unfold newP at hi
      obtain ⟨h1, h2⟩ := List.mem_filter.1 hi
      exact List.mem_filter.2 ⟨List.mem_range.2 (by have := List.mem_range.1 h1; omega), h2⟩
    · obtain ⟨h1, h2⟩ := List.mem_filter.1 hi
      rw [Bool.and_eq_true, Option.isSome_iff_exists, Option.isNone_iff_eq_none] at h2
      exact mem_newP.2 h2
  rw [hnew]
  generalize max A.length A'.length = m
  induction m with
  | zero => rfl
  | succ m ih =>
    rw [List.range_succ, List.filter_append, List.filter_append, List.filter_append, List.length_append, List.length_append, List.length_append, ih]
    cases h1 : slot A m with
    | some d =>
      have h3 := h m d h1
      simp [h1, h3]; omega
    | none =>
      cases h2 : slot A' m <;> simp [h1, h2]
      omega
theorem made_few {n : Nat} {room : Int} {A A' : Ar} {F : Fn} {id e : Int} (h : Made n room A A' F id e) {D : List Nat} (hD : Hangs D F) : liveA A' ≤ liveA A + (2 ^ D.length - 1) := by
  rw [live_ext h.ext]
  have := needed_few h.inv hD (newP_nodup A A') fun i hi => by
    obtain ⟨⟨d, h1⟩, h2⟩ := mem_newP.1 hi
    exact ⟨d, h1, h.need i d h1 h2⟩
  omega
/-- With room enough it is made. -/
theorem made_ok {n : Nat} {room : Int} {A A' : Ar} {F : Fn} {id e : Int} (h : Made n room A A' F id e) {D : List Nat} (hD : Hangs D F) (hr : (liveA A : Int) + 2 ^ D.length ≤ room) : e = 0 ∧ Rep A' id F := by
  rcases h.res with h1 | ⟨_, _, h2, _⟩
  · exact h1
  · have := made_few h hD
    have hp := Nat.one_le_two_pow (n := D.length)
    have : ((2 ^ D.length : Nat) : Int) = 2 ^ D.length := by simp
    omega
theorem low_hangs {n : Nat} {F : Fn} (h : Low n F) : Hangs (List.range n) F := fun a b hab => h a b fun j hj => hab j (List.mem_range.2 hj)
/-- An empty diagram's room is too small just if more are needed. -/
theorem made_lack {o : List Nat} (ho : OrdO o) {room : Int} {A' : Ar} {s : Nat} {id e : Int} (h : Made o.length room [] A' (FnS o s) id e) (he : e ≠ 0) : e = 5 ∧ id = 0 ∧ room < (sizeS o s : Int) := by
  rcases h.res with ⟨h1, _⟩ | ⟨h1, h2, h3, h4⟩
  · exact absurd h1 he
  · refine ⟨h1, h2, ?_⟩
    have := lack_count ho h.inv (newP_nodup [] A') (fun i hi => by
      obtain ⟨⟨d, h5⟩, h6⟩ := mem_newP.1 hi
      exact ⟨d, h5, h.need i d h5 h6⟩) h4
    have hl := live_ext h.ext
    have : liveA ([] : Ar) = 0 := rfl
    omega
end Go.Dk
end

section
/- Decision diagrams: built from a set; if then else; an input fixed. Plain Lean. -/
namespace Go.Dk

/-- A level as the diagram tells it. -/
def lvlB (n : Nat) (A : Ar) (id : Int) : Int := if id = 0 ∨ id = 1 then (n : Int) else lvlA A id
theorem lvlB_end {n : Nat} {A : Ar} {id : Int} (h : id = 0 ∨ id = 1) : lvlB n A id = n := by unfold lvlB; rw [if_pos h]
theorem lvlB_nd {n : Nat} {A : Ar} {id : Int} {d : Nd} (h : ndA A id = some d) : lvlB n A id = d.l := by
  obtain ⟨i, rfl, _⟩ := nd_place h
  unfold lvlB
  rw [if_neg (by omega), nd_lvl h]
theorem lvlB_there {n : Nat} {A : Ar} {id : Int} : 0 ≤ lvlB n A id ↔ 0 ≤ lvlA A id := by
  unfold lvlB
  split
  · rename_i h; rw [lvl_end h]; omega
  · exact Iff.rfl
theorem lvlB_le {n : Nat} {A : Ar} (h : BInv n A) (id : Int) : lvlB n A id ≤ n := by
  cases hd : ndA A id with
  | none =>
    unfold lvlB
    split
    · exact Int.le_refl _
    · rename_i hne
      have : ¬ 0 ≤ lvlA A id := fun h0 => hne (nd_none hd h0)
      omega
  | some d =>
    obtain ⟨i, _, hs⟩ := nd_place hd
    have := h.lt i d hs
    rw [lvlB_nd hd]; omega
theorem lvlB_leA {n : Nat} {A : Ar} (hn : n ≤ 24) (id : Int) : lvlB n A id ≤ lvlA A id := by
  unfold lvlB
  split
  · rename_i h; rw [lvl_end h]; omega
  · exact Int.le_refl _
theorem lvlB_lt {n : Nat} {A : Ar} {id : Int} (h : 0 ≤ lvlB n A id) (hlt : lvlB n A id < n) : ∃ d, ndA A id = some d ∧ lvlB n A id = d.l := by
  cases hd : ndA A id with
  | none =>
    have := nd_none hd (lvlB_there.1 h)
    rw [lvlB_end this] at hlt; omega
  | some d => exact ⟨d, rfl, lvlB_nd hd⟩

/-! ### From a set -/
/-- The points whose levels ahead are turned so. -/
def pre (o : List Nat) (level : Nat) (c : Asg) : Nat := setOf fun p => decide (p < 2 ^ o.length) && (List.range level).all fun k => p.testBit (o.getD k 0) == c k
theorem pre_lt (o : List Nat) (level : Nat) (c : Asg) : pre o level c < 2 ^ 256 := setOf_lt _
theorem testBit_pre {o : List Nat} (ho : OrdO o) {level : Nat} {c : Asg} {p : Nat} : (pre o level c).testBit p = true ↔ p < 2 ^ o.length ∧ ∀ k, k < level → p.testBit (o.getD k 0) = c k := by
  unfold pre
  rw [testBit_setOf]
  simp only [Bool.and_eq_true, decide_eq_true_eq, List.all_eq_true, List.mem_range, beq_iff_eq]
  have := pow_le_256 ho.le
  constructor
  · rintro ⟨_, h⟩; exact h
  · intro h; exact ⟨by have := h.1; omega, h⟩
theorem pre_zero (o : List Nat) (c : Asg) : pre o 0 c = allN o.length := by
  unfold pre allN
  congr 1
  funext p
  simp
theorem half_pre {o : List Nat} (ho : OrdO o) (level : Nat) (c : Asg) (v : Bool) : halfN (pre o level c) (o.getD level 0) v = pre o (level + 1) (upA c level v) := by
  refine set_ext (halfN_lt _ _ _) (pre_lt _ _ _) fun p hp => ?_
  unfold halfN
  rw [testBit_setOf, decide_eq_true hp, Bool.true_and, Bool.eq_iff_iff, Bool.and_eq_true, testBit_pre ho, testBit_pre ho, beq_iff_eq]
  constructor
  · rintro ⟨⟨h1, h2⟩, h3⟩
    refine ⟨h1, fun k hk => ?_⟩
    by_cases he : k = level
    · subst he; rw [upA_same]; exact h3
    · rw [upA_ne c v he]; exact h2 k (by omega)
  · rintro ⟨h1, h2⟩
    refine ⟨⟨h1, fun k hk => ?_⟩, ?_⟩
    · rw [h2 k (by omega), upA_ne c v (by omega)]
    · rw [h2 level (by omega), upA_same]
theorem pt_pre {o : List Nat} (ho : OrdO o) {level : Nat} (hl : level ≤ o.length) (c b : Asg) : (pre o level c).testBit (ptA o (mixA level c b)) = true := by
  refine (testBit_pre ho).2 ⟨ptA_lt _ _, fun k hk => ?_⟩
  have := asg_pt ho (mixA level c b) (show k < o.length by omega)
  unfold asgP at this
  rw [decide_eq_true (by omega), Bool.true_and] at this
  rw [this]
  unfold mixA; rw [if_pos hk]
theorem pre_pt {o : List Nat} (ho : OrdO o) {level : Nat} {c : Asg} {p : Nat} (h : (pre o level c).testBit p = true) : ptA o (mixA level c (asgP o p)) = p := by
  obtain ⟨h1, h2⟩ := (testBit_pre ho).1 h
  rw [← pt_asg ho h1]
  refine ptA_congr ho fun k hk => ?_
  rw [pt_asg ho h1]
  unfold mixA
  split
  · rename_i hkl
    rw [← h2 k hkl]
    unfold asgP
    rw [decide_eq_true hk, Bool.true_and]
  · rfl
theorem pre_full {o : List Nat} (ho : OrdO o) {c : Asg} {p : Nat} (h : (pre o o.length c).testBit p = true) : p = ptA o c := by
  rw [← pre_pt ho h]
  refine ptA_congr ho fun k hk => ?_
  unfold mixA; rw [if_pos hk]
/-- What a set says behind levels that are turned. -/
def FnL (o : List Nat) (s level : Nat) (c : Asg) : Fn := fun b => FnS o s (mixA level c b)
theorem build_zero {o : List Nat} (ho : OrdO o) {s level : Nat} (hl : level ≤ o.length) {c : Asg} (h : s &&& pre o level c = 0) (A : Ar) : Rep A 0 (FnL o s level c) := by
  refine rep_zero.congr fun b => ?_
  have h1 : (s &&& pre o level c).testBit (ptA o (mixA level c b)) = false := by rw [h]; exact Nat.zero_testBit _
  rw [Nat.testBit_and, pt_pre ho hl, Bool.and_true] at h1
  exact h1.symm
theorem build_all {o : List Nat} (ho : OrdO o) {s level : Nat} (hl : level ≤ o.length) {c : Asg} (h : s &&& pre o level c = pre o level c) (A : Ar) : Rep A 1 (FnL o s level c) := by
  refine rep_one.congr fun b => ?_
  have h1 := pt_pre ho hl c b
  rw [← h, Nat.testBit_and, Bool.and_eq_true] at h1
  exact h1.1.symm
theorem build_lt {o : List Nat} (ho : OrdO o) {s level : Nat} (hl : level ≤ o.length) {c : Asg} (h1 : s &&& pre o level c ≠ 0) (h2 : s &&& pre o level c ≠ pre o level c) : level < o.length := by
  refine Nat.lt_of_le_of_ne hl fun he => ?_
  subst he
  cases hb : s.testBit (ptA o c) with
  | true =>
    refine h2 (set_ext (Nat.lt_of_le_of_lt Nat.and_le_right (pre_lt _ _ _)) (pre_lt _ _ _) fun p _ => ?_)
    rw [Nat.testBit_and]
    cases hp : (pre o o.length c).testBit p with
    | false => rw [Bool.and_false]
    | true => rw [Bool.and_true, pre_full ho hp, hb]
  | false =>
    refine h1 (set_ext (Nat.lt_of_le_of_lt Nat.and_le_right (pre_lt _ _ _)) (by decide) fun p _ => ?_)
    rw [Nat.testBit_and, Nat.zero_testBit]
    cases hp : (pre o o.length c).testBit p with
    | false => rw [Bool.and_false]
    | true => rw [Bool.and_true, pre_full ho hp, hb]
theorem mix_step (level : Nat) (c b : Asg) (v : Bool) : mixA level c (upA b level v) = mixA (level + 1) (upA c level v) b := by
  funext j
  unfold mixA upA
  by_cases h1 : j = level
  · subst h1; simp
  · by_cases h2 : j < level
    · simp [h1, h2, show j < level + 1 by omega]
    · simp [h1, h2, show ¬ j < level + 1 by omega]
theorem FnL_up (o : List Nat) (s level : Nat) (c : Asg) (v : Bool) : (fun b => FnL o s level c (upA b level v)) = FnL o s (level + 1) (upA c level v) := by
  funext b
  unfold FnL
  rw [mix_step]
theorem FnL_indep (o : List Nat) (s level : Nat) (c : Asg) : ∀ j, j < level → Indep (FnL o s level c) j := fun _ hj => mix_indep c hj
theorem FnL_zero (o : List Nat) (s : Nat) (c : Asg) : FnL o s 0 c = FnS o s := rfl

/-! ### If then else -/
def iteF (A : Ar) (f g h : Int) : Fn := fun a => if sem A f a then sem A g a else sem A h a
theorem iteF_ext {A A' : Ar} (hA : ArInv A) (hA' : ArInv A') (hx : Ext A A') {f g h : Int} (hf : 0 ≤ lvlA A f) (hg : 0 ≤ lvlA A g) (hh : 0 ≤ lvlA A h) : iteF A' f g h = iteF A f g h := by
  funext a
  unfold iteF
  rw [hx.sem hA hA' a f hf, hx.sem hA hA' a g hg, hx.sem hA hA' a h hh]
theorem ite_zero {A : Ar} {g h : Int} (hh : 0 ≤ lvlA A h) : Rep A h (iteF A 0 g h) := ⟨hh, fun a => by unfold iteF; rw [sem_none (nd_end (.inl rfl))]; rfl⟩
theorem ite_one {A : Ar} {g h : Int} (hg : 0 ≤ lvlA A g) : Rep A g (iteF A 1 g h) := ⟨hg, fun a => by unfold iteF; rw [sem_none (id := 1) (nd_end (.inr rfl))]; rfl⟩
theorem ite_same {A : Ar} {f g : Int} (hg : 0 ≤ lvlA A g) : Rep A g (iteF A f g g) := ⟨hg, fun a => by unfold iteF; split <;> rfl⟩
theorem ite_indep {A : Ar} (hA : ArInv A) {f g h : Int} {j : Nat} (hf : (j : Int) < lvlA A f) (hg : (j : Int) < lvlA A g) (hh : (j : Int) < lvlA A h) : Indep (iteF A f g h) j := fun a b => by
  unfold iteF
  rw [sem_up hA hf, sem_up hA hg, sem_up hA hh]
def halfI' (A : Ar) (id : Int) (level : Nat) (v : Bool) : Int := match ndA A id with | some d => if d.l = level then (if v then (d.hi : Int) else (d.lo : Int)) else id | none => id
theorem half_sem {A : Ar} (hA : ArInv A) {id : Int} {level : Nat} (hl : (level : Int) ≤ lvlA A id) (v : Bool) (a : Asg) : sem A (halfI' A id level v) a = sem A id (upA a level v) := by
  unfold halfI'
  cases hd : ndA A id with
  | none => simp only; rw [sem_none hd, sem_none hd]
  | some d =>
    have := nd_lvl hd
    simp only
    split
    · rename_i he
      subst he
      cases v
      · exact sem_lo hA hd a
      · exact sem_hi hA hd a
    · rw [sem_up hA (by omega)]
theorem half_level {n : Nat} {A : Ar} (hA : BInv n A) {id : Int} (h0 : 0 ≤ lvlA A id) {level : Nat} (hl : (level : Int) ≤ lvlB n A id) (hn : level < n) (v : Bool) : 0 ≤ lvlA A (halfI' A id level v) ∧ (level : Int) < lvlB n A (halfI' A id level v) := by
  unfold halfI'
  cases hd : ndA A id with
  | none =>
    have := nd_none hd h0
    exact ⟨h0, by rw [lvlB_end this]; omega⟩
  | some d =>
    have h1 := lvlB_nd (n := n) hd
    have h2 := lev_of hA.inv hd
    obtain ⟨i, _, hs⟩ := nd_place hd
    have h3 := hA.lt i d hs
    simp only
    split
    · rename_i he
      have key : ∀ x : Int, (d.l : Int) < lvlA A x → 0 ≤ lvlA A x ∧ (level : Int) < lvlB n A x := fun x hx => by
        refine ⟨by omega, ?_⟩
        unfold lvlB
        split
        · omega
        · omega
      cases v
      · exact key _ h2.1
      · exact key _ h2.2
    · exact ⟨h0, by omega⟩
theorem ite_half {A : Ar} (hA : ArInv A) {f g h : Int} {level : Nat} (hf : (level : Int) ≤ lvlA A f) (hg : (level : Int) ≤ lvlA A g) (hh : (level : Int) ≤ lvlA A h) (v : Bool) :
    iteF A (halfI' A f level v) (halfI' A g level v) (halfI' A h level v) = fun b => iteF A f g h (upA b level v) := by
  funext b
  unfold iteF
  rw [half_sem hA hf, half_sem hA hg, half_sem hA hh]

/-! ### An input fixed -/
def fixF (A : Ar) (id : Int) (level : Nat) (v : Bool) : Fn := fun a => sem A id (upA a level v)
theorem fixF_ext {A A' : Ar} (hA : ArInv A) (hA' : ArInv A') (hx : Ext A A') {id : Int} (h : 0 ≤ lvlA A id) (level : Nat) (v : Bool) : fixF A' id level v = fixF A id level v := by
  funext a
  unfold fixF
  rw [hx.sem hA hA' _ id h]
theorem fix_below {A : Ar} (hA : ArInv A) {id : Int} {level : Nat} (h0 : 0 ≤ lvlA A id) (h : (level : Int) < lvlA A id) (v : Bool) : Rep A id (fixF A id level v) := ⟨h0, fun a => (sem_up hA h a v).symm⟩
theorem fix_at {A : Ar} (hA : ArInv A) {id : Int} {d : Nd} (hd : ndA A id = some d) (v : Bool) : Rep A (if v then (d.hi : Int) else (d.lo : Int)) (fixF A id d.l v) := by
  have := lev_of hA hd
  cases v
  · exact ⟨by simp only [Bool.false_eq_true, if_false]; omega, fun a => sem_lo hA hd a⟩
  · exact ⟨by simp only [if_true]; omega, fun a => sem_hi hA hd a⟩
theorem fix_up {A : Ar} (hA : ArInv A) {id : Int} {d : Nd} (hd : ndA A id = some d) {level : Nat} (hl : d.l < level) (v w : Bool) : (fun b => fixF A id level v (upA b d.l w)) = fixF A (if w then (d.hi : Int) else (d.lo : Int)) level v := by
  funext b
  unfold fixF
  rw [upA_comm b (by omega)]
  cases w
  · exact (sem_lo hA hd _).symm
  · exact (sem_hi hA hd _).symm
theorem fix_indep {A : Ar} (hA : ArInv A) {id : Int} {d : Nd} (hd : ndA A id = some d) {level : Nat} (v : Bool) : ∀ j, j < d.l → Indep (fixF A id level v) j := fun j hj a b => by
  have := nd_lvl hd
  unfold fixF
  by_cases he : j = level
  · subst he; rw [upA_up]
  · rw [upA_comm a he]
    exact sem_up hA (by omega) _ b
/-- What is so with a level turned or not. -/
theorem some_or (F : Fn) (level : Nat) (a : Asg) : (if F (upA a level false) then true else F (upA a level true)) = (F a || F (upA a level (!a level))) := by
  have h := upA_self a level
  cases ha : a level
  · rw [ha] at h
    rw [h]
    simp only [Bool.not_false]
    cases F a <;> simp
  · rw [ha] at h
    rw [h]
    simp only [Bool.not_true]
    cases F a <;> cases F (upA a level false) <;> simp
end Go.Dk
end

section
/- Orders of inputs: moved, and sifted. Plain Lean. -/
namespace Go.Dk

/-! ### Orders -/
structure OrdI (o : List Int) : Prop where
  nodup : o.Nodup
  rng : ∀ x ∈ o, 0 ≤ x ∧ x < o.length
  le : o.length ≤ 8
instance (o : List Int) : Decidable (OrdI o) :=
  if h : o.Nodup ∧ (∀ x ∈ o, 0 ≤ x ∧ x < o.length) ∧ o.length ≤ 8 then .isTrue ⟨h.1, h.2.1, h.2.2⟩ else .isFalse fun hh => h ⟨hh.nodup, hh.rng, hh.le⟩
def natsI (o : List Int) : List Nat := o.map Int.toNat
theorem OrdI.nats {o : List Int} (h : OrdI o) : OrdO (natsI o) := by
  have hl : (natsI o).length = o.length := by simp [natsI]
  refine ⟨nodup_mapOn h.nodup fun x hx y hy e => ?_, fun i hi => ?_, by rw [hl]; exact h.le⟩
  · have := h.rng x hx; have := h.rng y hy; omega
  · obtain ⟨x, hx, rfl⟩ := List.mem_map.1 hi
    have := h.rng x hx
    rw [hl]; omega
theorem natsI_length (o : List Int) : (natsI o).length = o.length := by simp [natsI]
theorem natsI_get {o : List Int} {k : Nat} {x : Int} (h : o[k]? = some x) : (natsI o).getD k 0 = x.toNat := by
  unfold natsI; rw [List.getD_eq_getElem?_getD, List.getElem?_map, h]; rfl
def iotaI (n : Nat) : List Int := (List.range n).map fun k : Nat => (k : Int)
theorem iotaI_nodup (n : Nat) : (iotaI n).Nodup := nodup_mapOn List.nodup_range fun x _ y _ e => by omega
theorem mem_iotaI {n : Nat} {x : Int} : x ∈ iotaI n ↔ 0 ≤ x ∧ x < n := by
  unfold iotaI
  rw [List.mem_map]
  constructor
  · rintro ⟨k, hk, rfl⟩; have := List.mem_range.1 hk; omega
  · rintro ⟨h0, h1⟩; exact ⟨x.toNat, List.mem_range.2 (by omega), by omega⟩
theorem iotaI_length (n : Nat) : (iotaI n).length = n := by simp [iotaI]
theorem OrdI.mem {o : List Int} (h : OrdI o) {x : Int} (h0 : 0 ≤ x) (h1 : x < o.length) : x ∈ o := by
  refine Classical.byContradiction fun hn => ?_
  have h2 := len_subG (a := x :: o) (b := iotaI o.length) (List.nodup_cons.2 ⟨hn, h.nodup⟩) fun k hk => by
    rcases List.mem_cons.1 hk with rfl | hk
    · exact mem_iotaI.2 ⟨h0, h1⟩
    · exact mem_iotaI.2 (h.rng k hk)
  rw [iotaI_length, List.length_cons] at h2
  omega
theorem nodup_of_count {α : Type} [DecidableEq α] : ∀ {l : List α}, (∀ x ∈ l, l.count x ≤ 1) → l.Nodup
  | [], _ => .nil
  | x :: l, h => by
    have h1 := h x (.head _)
    rw [List.count_cons_self] at h1
    refine List.nodup_cons.2 ⟨fun hx => ?_, nodup_of_count fun y hy => ?_⟩
    · have := List.count_pos_iff.2 hx; omega
    · have h2 := h y (.tail _ hy)
      have h3 : l.count y ≤ (x :: l).count y := List.count_le_count_cons
      omega
/-- The reference's test: each input is there once. -/
theorem ordI_count {o : List Int} (hl : o.length ≤ 8) : OrdI o ↔ ∀ i : Nat, i < o.length → o.count (i : Int) = 1 := by
  constructor
  · intro h i hi
    have h1 := List.count_pos_iff.2 (h.mem (x := (i : Int)) (by omega) (by omega))
    have h2 := List.nodup_iff_count.1 h.nodup (i : Int)
    omega
  · intro h
    have hin : ∀ x ∈ o, 0 ≤ x ∧ x < o.length := fun x hx => by
      refine Classical.byContradiction fun hn => ?_
      have h2 := len_subG (a := x :: iotaI o.length) (b := o) (List.nodup_cons.2 ⟨fun hm => hn (mem_iotaI.1 hm), iotaI_nodup _⟩) fun k hk => by
        rcases List.mem_cons.1 hk with rfl | hk
        · exact hx
        · have hk' := mem_iotaI.1 hk
          have := h k.toNat (by omega)
          rw [show ((k.toNat : Nat) : Int) = k by omega] at this
          exact List.count_pos_iff.1 (by omega)
      rw [List.length_cons, iotaI_length] at h2
      omega
    refine ⟨nodup_of_count fun x hx => ?_, hin, hl⟩
    have hx' := hin x hx
    have := h x.toNat (by omega)
    rw [show ((x.toNat : Nat) : Int) = x by omega] at this
    omega

/-! ### Moves -/
def insAt (l : List Int) (x : Int) (p : Nat) : List Int := l.take p ++ x :: l.drop p
def restI (o : List Int) (x : Int) : List Int := o.filter fun y => y != x
def moveI (o : List Int) (x : Int) (p : Nat) : List Int := insAt (restI o x) x p
theorem insAt_length {l : List Int} {x : Int} {p : Nat} : (insAt l x p).length = l.length + 1 := by
  unfold insAt
  rw [List.length_append, List.length_cons, List.length_take, List.length_drop]
  omega
theorem insAt_perm (l : List Int) (x : Int) (p : Nat) : (insAt l x p).Perm (x :: l) := by
  unfold insAt
  have := @List.perm_middle Int x (l.take p) (l.drop p)
  rwa [List.take_append_drop] at this
theorem rest_append (l m : List Int) (x : Int) : restI (l ++ m) x = restI l x ++ restI m x := List.filter_append ..
theorem rest_self {l : List Int} {x : Int} (h : x ∉ l) : restI l x = l := List.filter_eq_self.2 fun y hy => by
  have : y ≠ x := fun e => h (e ▸ hy)
  simpa using this
theorem rest_not (l : List Int) (x : Int) : x ∉ restI l x := fun h => by simpa using (List.mem_filter.1 h).2
/-- An order is its rest, with the input put back. -/
theorem ins_self {o : List Int} (hn : o.Nodup) {i : Nat} {x : Int} (hx : o[i]? = some x) : moveI o x i = o ∧ (restI o x).length + 1 = o.length := by
  obtain ⟨hi, hxe⟩ := List.getElem?_eq_some_iff.1 hx
  have hsp : o = o.take i ++ x :: o.drop (i + 1) := by rw [← hxe, List.getElem_cons_drop, List.take_append_drop]
  have hn' := hn
  rw [hsp] at hn'
  have hp := (List.perm_middle.nodup_iff).1 hn'
  obtain ⟨h1, h2⟩ := List.nodup_cons.1 hp
  rw [List.mem_append, not_or] at h1
  have hr : restI o x = o.take i ++ o.drop (i + 1) := by
    conv => lhs; rw [hsp]
    rw [rest_append, rest_self h1.1]
    congr 1
    unfold restI
    rw [List.filter_cons]
    simp only [bne_self_eq_false, Bool.false_eq_true, if_false]
    exact rest_self h1.2
  have hlt : (o.take i).length = i := by rw [List.length_take]; omega
  refine ⟨?_, ?_⟩
  · unfold moveI insAt
    rw [hr, List.take_left' hlt, List.drop_left' hlt]
    exact hsp.symm
  · rw [hr, List.length_append, hlt, List.length_drop]; omega
theorem rest_len {o : List Int} (h : OrdI o) {x : Int} (h0 : 0 ≤ x) (h1 : x < o.length) : (restI o x).length + 1 = o.length := by
  obtain ⟨i, hi, rfl⟩ := List.getElem_of_mem (h.mem h0 h1)
  exact (ins_self h.nodup (List.getElem?_eq_getElem hi)).2
theorem move_len {o : List Int} (h : OrdI o) {x : Int} (h0 : 0 ≤ x) (h1 : x < o.length) (p : Nat) : (moveI o x p).length = o.length := by
  unfold moveI
  rw [insAt_length, rest_len h h0 h1]
theorem move_ord {o : List Int} (h : OrdI o) {x : Int} (h0 : 0 ≤ x) (h1 : x < o.length) (p : Nat) : OrdI (moveI o x p) := by
  have hl := move_len h h0 h1 p
  have hp := insAt_perm (restI o x) x p
  refine ⟨(hp.nodup_iff).2 (List.nodup_cons.2 ⟨rest_not o x, h.nodup.sublist List.filter_sublist⟩), fun y hy => ?_, by rw [hl]; exact h.le⟩
  rw [hl]
  rcases List.mem_cons.1 (hp.mem_iff.1 hy) with rfl | hy
  · exact ⟨h0, h1⟩
  · exact h.rng y (List.mem_filter.1 hy).1
theorem move_get {o : List Int} {x : Int} {p : Nat} (hp : p ≤ (restI o x).length) : (moveI o x p)[p]? = some x := by
  unfold moveI insAt
  have : ((restI o x).take p).length = p := by rw [List.length_take]; omega
  rw [List.getElem?_append_right (by omega), this, Nat.sub_self]; rfl
theorem ins_up {l : List Int} {x : Int} {p : Nat} (h : p < l.length) : (insAt l x p)[p + 1]? = some l[p] ∧ ((insAt l x p).set p l[p]).set (p + 1) x = insAt l x (p + 1) := by
  have ht : (l.take p).length = p := by rw [List.length_take]; omega
  have e : insAt l x p = l.take p ++ x :: l[p] :: l.drop (p + 1) := by unfold insAt; rw [List.drop_eq_getElem_cons h]
  have e2 : insAt l x (p + 1) = l.take p ++ l[p] :: x :: l.drop (p + 1) := by
    unfold insAt
    rw [List.take_succ_eq_append_getElem h, List.append_assoc]; rfl
  rw [e, e2]
  refine ⟨?_, ?_⟩
  · rw [List.getElem?_append_right (by omega), ht, show p + 1 - p = 1 by omega]; rfl
  · rw [List.set_append_right _ _ (by omega), ht, Nat.sub_self, List.set_cons_zero, List.set_append_right _ _ (by omega), ht, show p + 1 - p = 1 by omega]; rfl
theorem ins_down {l : List Int} {x : Int} {p : Nat} (h : p < l.length) : (insAt l x (p + 1))[p]? = some l[p] ∧ ((insAt l x (p + 1)).set (p + 1) l[p]).set p x = insAt l x p := by
  have ht : (l.take p).length = p := by rw [List.length_take]; omega
  have e : insAt l x p = l.take p ++ x :: l[p] :: l.drop (p + 1) := by unfold insAt; rw [List.drop_eq_getElem_cons h]
  have e2 : insAt l x (p + 1) = l.take p ++ l[p] :: x :: l.drop (p + 1) := by
    unfold insAt
    rw [List.take_succ_eq_append_getElem h, List.append_assoc]; rfl
  rw [e, e2]
  refine ⟨?_, ?_⟩
  · rw [List.getElem?_append_right (by omega), ht, Nat.sub_self]; rfl
  · rw [List.set_append_right _ _ (by omega), ht, show p + 1 - p = 1 by omega]
    show (l.take p ++ l[p] :: ((x :: l.drop (p + 1)).set 0 l[p])).set p x = _
    rw [List.set_cons_zero, List.set_append_right _ _ (by omega), ht, Nat.sub_self, List.set_cons_zero]

/-! ### To sift -/
def bestP (cost : List Int → Nat) (o : List Int) (x : Int) : Nat → List Int
  | 0 => moveI o x 0
  | k + 1 => if cost (moveI o x (k + 1)) < cost (bestP cost o x k) then moveI o x (k + 1) else bestP cost o x k
theorem bestP_at (cost : List Int → Nat) (o : List Int) (x : Int) : ∀ k, ∃ p, p ≤ k ∧ bestP cost o x k = moveI o x p
  | 0 => ⟨0, Nat.le_refl _, rfl⟩
  | k + 1 => by
    obtain ⟨p, hp, he⟩ := bestP_at cost o x k
    unfold bestP
    split
    · exact ⟨k + 1, Nat.le_refl _, rfl⟩
    · exact ⟨p, by omega, he⟩
theorem bestP_le (cost : List Int → Nat) (o : List Int) (x : Int) : ∀ k p, p ≤ k → cost (bestP cost o x k) ≤ cost (moveI o x p)
  | 0, p, hp => by obtain rfl : p = 0 := by omega
                   exact Nat.le_refl _
  | k + 1, p, hp => by
    unfold bestP
    rcases Nat.lt_or_ge p (k + 1) with hlt | hge
    · have := bestP_le cost o x k p (by omega)
      split
      · omega
      · exact this
    · obtain rfl : p = k + 1 := by omega
      split
      · exact Nat.le_refl _
      · omega
/-- One input after another. -/
def siftTo (cost : List Int → Nat) (o : List Int) : Nat → List Int
  | 0 => o
  | k + 1 => bestP cost (siftTo cost o k) (k : Int) (o.length - 1)
def sifts (cost : List Int → Nat) (o : List Int) : Nat → List Int
  | 0 => o
  | r + 1 => siftTo cost (sifts cost o r) (sifts cost o r).length
structure SiftOk (cost : List Int → Nat) (o o' : List Int) : Prop where
  ord : OrdI o'
  len : o'.length = o.length
  le : cost o' ≤ cost o
theorem best_ok {cost : List Int → Nat} {o : List Int} (h : OrdI o) {x : Int} (h0 : 0 ≤ x) (h1 : x < o.length) : SiftOk cost o (bestP cost o x (o.length - 1)) := by
  obtain ⟨p, hp, he⟩ := bestP_at cost o x (o.length - 1)
  obtain ⟨i, hi, hx⟩ := List.getElem_of_mem (h.mem h0 h1)
  have hs := (ins_self h.nodup (show o[i]? = some x by rw [List.getElem?_eq_getElem hi, hx])).1
  have hle := bestP_le cost o x (o.length - 1) i (by omega)
  rw [hs] at hle
  refine ⟨by rw [he]; exact move_ord h h0 h1 p, by rw [he]; exact move_len h h0 h1 p, hle⟩
theorem siftTo_ok {cost : List Int → Nat} {o : List Int} (h : OrdI o) : ∀ k, k ≤ o.length → SiftOk cost o (siftTo cost o k)
  | 0, _ => ⟨h, rfl, Nat.le_refl _⟩
  | k + 1, hk => by
    have ih := siftTo_ok (cost := cost) h k (by omega)
    have hb := best_ok (cost := cost) ih.ord (x := (k : Int)) (by omega) (by rw [ih.len]; omega)
    unfold siftTo
    rw [ih.len] at hb
    exact ⟨hb.ord, hb.len.trans ih.len, Nat.le_trans hb.le ih.le⟩
theorem sifts_ok {cost : List Int → Nat} {o : List Int} (h : OrdI o) : ∀ r, SiftOk cost o (sifts cost o r)
  | 0 => ⟨h, rfl, Nat.le_refl _⟩
  | r + 1 => by
    have ih := sifts_ok (cost := cost) h r
    have hs := siftTo_ok (cost := cost) ih.ord (sifts cost o r).length (Nat.le_refl _)
    exact ⟨hs.ord, hs.len.trans ih.len, Nat.le_trans hs.le ih.le⟩
/-- How many nodes sets need. -/
def sizesS (sets : List Nat) (o : List Int) : Nat := (sets.map (sizeS (natsI o))).sum
end Go.Dk
end

import Derived.Test.YtjebpngdinbckaaV9
/- The reference's arenas: how they lie in memory; level, Len. -/
namespace Go.Proofs.Ytjebpngdinbckaa
open Go.Dk
attribute [local irreducible] IntKind.wrap

/-- A node of a reference's arena, and whether it is gone. -/
abbrev RN := Nd × Bool
def encN (x : RN) : List Value := [.int .i64 x.1.l, .int .i64 x.1.lo, .int .i64 x.1.hi, .bool x.2]
theorem encN_length (x : RN) : (encN x).length = 4 := rfl
theorem encN_one (x : RN) : ∀ v ∈ encN x, v.oneCell' = true := by
  intro v hv
  simp [encN] at hv
  rcases hv with rfl | rfl | rfl | rfl <;> rfl
def ab (N : List RN) : Ar := N.map fun x => if x.2 then none else some x.1
theorem ab_length (N : List RN) : (ab N).length = N.length := List.length_map ..
theorem slot_ab {N : List RN} {i : Nat} {x : RN} (h : N[i]? = some x) : slot (ab N) i = if x.2 then none else some x.1 := by
  unfold slot ab
  rw [List.getD_eq_getElem?_getD, List.getElem?_map, h]; rfl
theorem node_0 {N : List RN} {i : Nat} {x : RN} (h : N[i]? = some x) : (flat encN N)[i * 4]? = some (.int .i64 x.1.l) := by have := flat_cell encN_length h 0 (by decide); exact this
theorem node_1 {N : List RN} {i : Nat} {x : RN} (h : N[i]? = some x) : (flat encN N)[i * 4 + 1]? = some (.int .i64 x.1.lo) := flat_cell encN_length h 1 (by decide)
theorem node_2 {N : List RN} {i : Nat} {x : RN} (h : N[i]? = some x) : (flat encN N)[i * 4 + 2]? = some (.int .i64 x.1.hi) := flat_cell encN_length h 2 (by decide)
theorem node_3 {N : List RN} {i : Nat} {x : RN} (h : N[i]? = some x) : (flat encN N)[i * 4 + 3]? = some (.bool x.2) := flat_cell encN_length h 3 (by decide)
theorem size64 : sizeT Try.prog 64 = some 2 := by kernel_rfl
theorem agg64 : aggT Try.prog 64 = some true := by kernel_rfl
theorem fa64_0 (g : Nat) (w : World) : (Instr.fieldAt 64 (.pointer (some ⟨g, 0, none⟩)) 0).run Try.prog w = .ok (.pointer (some ⟨g, 0, none⟩)) w := by kernel_rfl
theorem fa64_1 (g : Nat) (w : World) : (Instr.fieldAt 64 (.pointer (some ⟨g, 0, none⟩)) 1).run Try.prog w = .ok (.pointer (some ⟨g, 1, none⟩)) w := by kernel_rfl
theorem ga78_0 (g o : Nat) (w : World) : (Instr.fieldAt 78 (.pointer (some ⟨g, o, none⟩)) 0).run Try.prog w = .ok (.pointer (some ⟨g, o, none⟩)) w := by kernel_rfl
theorem ga78_3 (g o : Nat) (w : World) : (Instr.fieldAt 78 (.pointer (some ⟨g, o, none⟩)) 3).run Try.prog w = .ok (.pointer (some ⟨g, o + 3, none⟩)) w := by kernel_rfl
/-- A reference's arena as a value. -/
def rc (room : Int) (v : Value) : Array Value := #[.int .i64 room, v]
def rv (room : Int) (v : Value) : Value := .agg (rc room v)

theorem lvlA_end (A : Ar) {id : Int} (h : id = 0 ∨ id = 1) : lvlA A id = 24 := by unfold lvlA; rw [if_pos h]
theorem lvlA_neg (A : Ar) {id : Int} (h : id < 0) : lvlA A id = -1 := by unfold lvlA; rw [if_neg (by omega), if_neg (by omega)]
theorem lvlA_far (A : Ar) {id : Int} (h : (A.length : Int) + 2 ≤ id) : lvlA A id = -1 := by unfold lvlA; rw [if_neg (by omega), if_pos (by omega), slot_none (by omega)]
theorem lvlA_at {N : List RN} {i : Nat} {x : RN} (h : N[i]? = some x) : lvlA (ab N) ((i : Int) + 2) = if x.2 then -1 else (x.1.l : Int) := by
  unfold lvlA
  rw [if_neg (by omega), if_pos (by omega), show ((i : Int) + 2 - 2).toNat = i by omega, slot_ab h]
  cases x.2 <;> rfl
theorem wlen2 {n : Nat} (h : n ≤ 1000000) : IntKind.i64.wrap ((n : Int) + 2) = ((n + 2 : Nat) : Int) := by rw [IntKind.wrap_i64]; omega
theorem wsub2 {i : Nat} (h : i ≤ 1000000) : IntKind.i64.wrap ((i : Int) + 2 - 2) = (i : Int) := by rw [IntKind.wrap_i64]; omega
theorem ent167 : enters Try.prog 167 = true := by kernel_rfl
theorem c167 (room : Int) (N : List RN) (B : Option Addr) (c : Nat) (id : Int) (w : World) (hl : N.length ≤ 1000000) (hs : Sl w (.slice B N.length c) 4 N.length (flat encN N)) :
    Fun Try.prog 167 [rv room (.slice B N.length c), .int .i64 id] w fun v w' => v = .int .i64 (lvlA (ab N) id) ∧ Same w w' := by
  refine fun_of_W (N := 37) Try.func167 ent167 rfl rfl rfl (by simp) ?_
  have H := Hp.start0 w
  refine H.box 64 (rv _ _) (cs := rc _ _) rfl ?_
  clear H
  intro g1 w1 H
  refine cond_beq (fun h2 => ?_) (fun h2 => ?_)
  · refine cond_yes (beq_iff_eq.2 (by assumption)) ?_
    refine cond_yes (beq_iff_eq.2 (by assumption)) ?_
    refine cond_yes rfl ?_
    exact ⟨by rw [lvlA_end _ (.inl h2)]; rfl, H.keeps⟩
  · refine cond_no (beq_eq_false_iff_ne.2 (by assumption)) ?_
    refine cond_no (beq_eq_false_iff_ne.2 (by assumption)) ?_
    refine cond_beq (fun h9 => ?_) (fun h9 => ?_)
    · exact ⟨by rw [lvlA_end _ (.inr h9)]; rfl, H.keeps⟩
    · refine cond_dec (fun h11 => ?_) (fun h11 => ?_)
      · refine cond_yes (decide_eq_true (by assumption)) ?_
        iterate 5 refine cond_yes (decide_eq_true (by assumption)) ?_
        iterate 9 refine cond_yes rfl ?_
        exact ⟨by rw [lvlA_neg _ h11]; rfl, H.keeps⟩
      · refine cond_no (decide_eq_false (by assumption)) ?_
        refine fieldAddr_by (fa64_1 _) ?_
        refine cond_no (decide_eq_false (by assumption)) ?_
        refine H.load 0 rfl agg62 rfl ?_
        refine cond_no (decide_eq_false (by assumption)) ?_
        refine len_sl Try.underlying62 ?_
        iterate 3 refine cond_no (decide_eq_false (by assumption)) ?_
        refine cond_dec (fun h37 => ?_) (fun h37 => ?_)
        · refine cond_yes (decide_eq_true (by assumption)) ?_
          iterate 6 refine cond_yes (decide_eq_true (by assumption)) ?_
          refine cond_yes rfl ?_
          rw [wlen2 hl] at h37
          exact ⟨by rw [lvlA_far _ (by rw [ab_length]; omega)]; rfl, H.keeps⟩
        · rw [wlen2 hl] at h37
          obtain ⟨i, rfl⟩ : ∃ i : Nat, id = (i : Int) + 2 := ⟨(id - 2).toNat, by omega⟩
          have hi : i < N.length := by omega
          obtain ⟨x, hx⟩ : ∃ x, N[i]? = some x := ⟨_, List.getElem?_eq_getElem hi⟩
          have hlv := lvlA_at hx
          have hw2 := wsub2 (i := i) (by omega)
          obtain ⟨g0, o0, rfl⟩ := hs.A (by omega)
          refine fieldAddr_by (fa64_1 _) ?_
          refine cond_no (decide_eq_false (by rw [wlen2 hl]; omega)) ?_
          refine H.load 0 rfl agg62 rfl ?_
          iterate 3 refine cond_no (decide_eq_false (by rw [wlen2 hl]; omega)) ?_
          refine idxAddr_sl Try.underlying62 (s := 4) size78 i hw2 hi (o' := o0 + i * 4) rfl ?_
          refine cond_no (decide_eq_false (by rw [wlen2 hl]; omega)) ?_
          refine fieldAddr_by (ga78_3 _ _) ?_
          refine cond_no (decide_eq_false (by rw [wlen2 hl]; omega)) ?_
          refine H.loadSl (i := i * 4 + 3) hs agg4 _ (by omega) (node_3 hx) ?_
          refine cond_no (decide_eq_false (by rw [wlen2 hl]; omega)) ?_
          refine cond_split (fun h8 => ?_) (fun h8 => ?_)
          · rw [if_pos h8] at hlv; exact ⟨by rw [hlv]; rfl, H.keeps⟩
          · refine fieldAddr_by (fa64_1 _) ?_
            refine H.load 0 rfl agg62 rfl ?_
            refine idxAddr_sl Try.underlying62 (s := 4) size78 i hw2 hi (o' := o0 + i * 4) rfl ?_
            refine fieldAddr_by (ga78_0 _ _) ?_
            refine H.loadSl (i := i * 4) hs agg3 _ (by omega) (node_0 hx) ?_
            rw [if_neg (by rw [h8]; decide)] at hlv; exact ⟨by rw [hlv]; rfl, H.keeps⟩


theorem ent71 : enters Try.prog 71 = true := by kernel_rfl
theorem live_snoc {N : List RN} {i : Nat} {x : RN} (h : N[i]? = some x) : liveA ((ab N).take (i + 1)) = liveA ((ab N).take i) + if x.2 then 0 else 1 := by
  have hi := (List.getElem?_eq_some_iff.1 h).1
  have h' : (ab N)[i]? = some (if x.2 then none else some x.1) := by unfold ab; rw [List.getElem?_map, h]; rfl
  unfold liveA
  rw [List.take_add_one, h', List.countP_append]
  cases x.2 <;> rfl
theorem c71 (room : Int) (N : List RN) (B : Option Addr) (c : Nat) (w : World) (hl : N.length ≤ 1000000) (hs : Sl w (.slice B N.length c) 4 N.length (flat encN N)) :
    Fun Try.prog 71 [rv room (.slice B N.length c)] w fun v w' => v = .int .i64 (liveA (ab N) : Int) ∧ Same w w' := by
  refine fun_of_W (N := 22) Try.func71 ent71 rfl rfl rfl (by simp) ?_
  have H := Hp.start0 w
  refine H.box 64 (rv _ _) (cs := rc _ _) rfl ?_
  clear H
  intro g1 w1 H
  refine cut_rule (γ := Unit) _ rfl (fun _ => [(3, .int .i64 0)]) (fun _ w' => Hp.cl H w') ⟨(), ⟨rfl, trivial⟩, H⟩ ?_
  rintro ⟨⟩ u1 w2 H1
  replace H : Hp _ _ _ _ _ := H1
  clear H1
  refine cut_rule (γ := Unit) _ rfl (fun _ => [(3, .int .i64 (liveA (ab N) : Int))]) (fun _ w' => Hp.cl H w') ?_ ?_
  · refine loop_rule (γ := Nat) _ rfl (fun i => [(4, .int .i64 (i : Int)), (3, .int .i64 (liveA ((ab N).take i) : Int))]) (fun i w' => i ≤ N.length ∧ Hp.cl H w') (fun i => N.length - i) 0 ⟨rfl, rfl, trivial⟩ ⟨Nat.zero_le _, H⟩ ?_
    rintro i u w2 ⟨hi, H1⟩
    have H : Hp _ _ _ _ _ := H1
    have hcl : liveA ((ab N).take i) ≤ 1000000 := Nat.le_trans List.countP_le_length (by rw [List.length_take]; omega)
    refine fieldAddr_by (fa64_1 _) ?_
    refine H.load 0 rfl agg62 rfl ?_
    refine len_sl Try.underlying62 ?_
    refine cond_dec (fun h7 => ?_) (fun h7 => ?_)
    · obtain ⟨x, hx⟩ : ∃ x, N[i]? = some x := ⟨_, List.getElem?_eq_getElem (by omega)⟩
      have hlv := live_snoc hx
      obtain ⟨g0, o0, rfl⟩ := hs.A (by omega)
      refine fieldAddr_by (fa64_1 _) ?_
      refine H.load 0 rfl agg62 rfl ?_
      refine idxAddr_sl Try.underlying62 (s := 4) size78 i rfl (by omega) (o' := o0 + i * 4) rfl ?_
      refine fieldAddr_by (ga78_3 _ _) ?_
      refine H.loadSl (i := i * 4 + 3) hs agg4 _ (by omega) (node_3 hx) ?_
      refine cond_split (fun h3 => ?_) (fun h3 => ?_)
      · simp at h3
        rw [h3, if_neg (by decide)] at hlv
        have e : Value.int .i64 (IntKind.i64.wrap ((liveA ((ab N).take i) : Int) + 1)) = .int .i64 (liveA ((ab N).take (i + 1)) : Int) := by rw [hlv]; exact up (by omega)
        exact ⟨i + 1, by show N.length - (i + 1) < N.length - i; omega, ⟨up (by omega), e, trivial⟩, by show i + 1 ≤ _; omega, H⟩
      · simp at h3
        rw [h3, if_pos rfl] at hlv
        exact ⟨i + 1, by show N.length - (i + 1) < N.length - i; omega, ⟨up (by omega), by rw [hlv]; rfl, trivial⟩, by show i + 1 ≤ _; omega, H⟩
    · have : i = N.length := by omega
      subst this
      rw [List.take_of_length_le (by rw [ab_length]; omega)]
      exact ⟨(), ⟨rfl, trivial⟩, H1⟩
  · rintro ⟨⟩ u w2 H1
    exact ⟨rfl, H1.keeps⟩
end Go.Proofs.Ytjebpngdinbckaa

import Derived.Test.YtjebpngdinbckaaV
/- Arenas: the functions of package arena. -/
namespace Go.Proofs.Ytjebpngdinbckaa
open Go.Dk
attribute [local irreducible] IntKind.wrap

theorem c168 {g r : Nat} {sv : Value} {room : Int} {A : Ar} (id : Int) (hid : id < 9223372036854775808) (w : World) (h : (arR g r sv room A).ok w) : Fun Try.prog 168 [.pointer (some ⟨g, 0, none⟩), .int .i64 id] w fun v w' => v = .bool (thereA A id) ∧ Same w w' := by
  by_cases h2 : id < 2
  · have e : thereA A id = false := by unfold thereA; rw [decide_eq_false (by omega)]; rfl
    rw [e]; exact c168_b id h2 w h
  · obtain ⟨k, rfl⟩ : ∃ k : Nat, id = (k : Int) + 2 := ⟨(id - 2).toNat, by omega⟩
    have e : thereA A ((k : Int) + 2) = (slot A k).isSome := by
      unfold thereA; rw [decide_eq_true (by omega), show ((k : Int) + 2 - 2).toNat = k by omega]; rfl
    rw [e]; exact c168_a k (by omega) w h
theorem bin_eql59 {xo yo : Operand} {w : World} {kk : Value → World → Prop} {g : Nat} (h : kk (.bool false) w) : binK Try.prog .eql 59 xo yo (.pointer (some ⟨g, 0, none⟩)) (.pointer none) w kk :=
  bin_by (fun w => by rw [eqGuard_at_pointer]; kernel_rfl) h
theorem bin_eql59z {xo yo : Operand} {w : World} {kk : Value → World → Prop} (h : kk (.bool true) w) : binK Try.prog .eql 59 xo yo (.pointer none) (.pointer none) w kk :=
  bin_by (fun w => by rw [eqGuard_at_pointer]; kernel_rfl) h
theorem ent166 : enters Try.prog 166 = true := by kernel_rfl
theorem c166_b {g r : Nat} {sv : Value} {room : Int} {A : Ar} (id : Int) (hid : id < 2) (w : World) (h : (arR g r sv room A).ok w) : Fun Try.prog 166 [.pointer (some ⟨g, 0, none⟩), .int .i64 id] w fun v w' => v = .int .i64 (lvlA A id) ∧ Same w w' := by
  refine fun_of_W (N := 25) Try.func166 ent166 rfl rfl rfl (by simp) ?_
  have H := Hp.start0 w
  unfold lvlA
  by_cases h0 : id = 0 ∨ id = 1
  · rw [if_pos h0]
    refine cond_beq (fun h1 => ?_) (fun h1 => ?_)
    · refine cond_yes (beq_iff_eq.2 (by assumption)) ?_
      refine cond_yes (beq_iff_eq.2 (by assumption)) ?_
      refine cond_yes rfl ?_
      exact ⟨rfl, H.keeps⟩
    · refine cond_no (beq_eq_false_iff_ne.2 (by assumption)) ?_
      refine cond_no (beq_eq_false_iff_ne.2 (by assumption)) ?_
      refine cond_yes (beq_iff_eq.2 (by omega)) ?_
      exact ⟨rfl, H.keeps⟩
  · rw [if_neg h0, if_neg (by omega)]
    iterate 4 refine cond_no (beq_eq_false_iff_ne.2 (by omega)) ?_
    refine call_fn (c168_b _ hid _ h) ?_
    rintro _ w5 ⟨rfl, hk⟩
    replace H := H.same hk
    clear hk
    refine cond_no rfl ?_
    exact ⟨rfl, H.keeps⟩
theorem c166_a {g r : Nat} {sv : Value} {room : Int} {A : Ar} (k : Nat) (hk : k < 9223372036854775806) (w : World) (h : (arR g r sv room A).ok w) : Fun Try.prog 166 [.pointer (some ⟨g, 0, none⟩), .int .i64 ((k : Int) + 2)] w fun v w' => v = .int .i64 (lvlA A ((k : Int) + 2)) ∧ Same w w' := by
  refine fun_of_W (N := 25) Try.func166 ent166 rfl rfl rfl (by simp) ?_
  have h' := h
  obtain ⟨N, B, c, l, rfl, rfl, hl, hnd, H⟩ := arR_open h
  have hw := sub2 hk
  cases hs : slot (ars N) k with
  | none =>
    have e : lvlA (ars N) ((k : Int) + 2) = -1 := by
      unfold lvlA; rw [if_neg (by omega), if_pos (by omega), show ((k : Int) + 2 - 2).toNat = k by omega, hs]
    rw [e]
    iterate 4 refine cond_no rfl ?_
    refine call_fn (c168_a k hk _ h') ?_
    rintro _ w5 ⟨rfl, hk⟩
    replace H := H.same hk
    clear hk
    rw [hs]
    refine cond_no rfl ?_
    exact ⟨rfl, H.keeps⟩
  | some n =>
    have hk' := slot_lt hs
    rw [ars_length] at hk'
    obtain ⟨g0, rfl⟩ := own_base (H.ro 1 rfl) (by omega)
    obtain ⟨s, hs'⟩ : ∃ s, N[k]? = some s := ⟨_, List.getElem?_eq_getElem hk'⟩
    have hs2 := slot_ars hs'
    rw [hs] at hs2
    cases s with
    | inr p => cases hs2
    | inl n' =>
      cases hs2
      rw [lvlA_slot hs]
      iterate 4 refine cond_no rfl ?_
      refine call_fn (c168_a k hk _ h') ?_
      rintro _ w5 ⟨rfl, hk⟩
      replace H := H.same hk
      clear hk
      rw [hs]
      refine cond_yes rfl ?_
      refine fieldAddr_by (fa199_1 _) ?_
      refine ld_blk (H.ro 0 rfl) agg197 rfl ?_
      refine idxAddr_sl Try.underlying197 size202 k hw hk' (o' := k * 3) (by omega) ?_
      refine fieldAddr_by (fa202_0 _ _) ?_
      refine ld_fld (H.ro 1 rfl) encS_length agg3 k 0 rfl hs' rfl ?_
      exact ⟨rfl, H.keeps⟩
theorem c166 {g r : Nat} {sv : Value} {room : Int} {A : Ar} (id : Int) (hid : id < 9223372036854775808) (w : World) (h : (arR g r sv room A).ok w) : Fun Try.prog 166 [.pointer (some ⟨g, 0, none⟩), .int .i64 id] w fun v w' => v = .int .i64 (lvlA A id) ∧ Same w w' := by
  by_cases h2 : id < 2
  · exact c166_b id h2 w h
  · obtain ⟨k, rfl⟩ : ∃ k : Nat, id = (k : Int) + 2 := ⟨(id - 2).toNat, by omega⟩
    exact c166_a k (by omega) w h
theorem ent70 : enters Try.prog 70 = true := by kernel_rfl
theorem c70 {g r : Nat} {sv : Value} {room : Int} {A : Ar} (w : World) (h : (arR g r sv room A).ok w) : Fun Try.prog 70 [.pointer (some ⟨g, 0, none⟩)] w fun v w' => v = .int .i64 (liveA A : Int) ∧ Same w w' := by
  refine fun_of_W (N := 10) Try.func70 ent70 rfl rfl rfl (by simp) ?_
  obtain ⟨N, B, c, l, rfl, rfl, hl, hnd, H⟩ := arR_open h
  rw [← hl.len]
  refine bin_eql59 ?_
  refine cond_no rfl ?_
  refine fieldAddr_by (fa199_2 _) ?_
  refine ld_blk (H.ro 0 rfl) agg196 rfl ?_
  refine lenMap_at (H.ro 2 rfl) W196 ?_
  exact ⟨rfl, H.keeps⟩
theorem c70_nil (w : World) : Fun Try.prog 70 [.pointer none] w fun v w' => v = .int .i64 0 ∧ Same w w' := by
  refine fun_of_W (N := 10) Try.func70 ent70 rfl rfl rfl (by simp) ?_
  have H := Hp.start0 w
  refine bin_eql59z ?_
  refine cond_yes rfl ?_
  exact ⟨rfl, H.keeps⟩
/-- What Node answers. -/
def nodeV (A : Ar) (id : Int) : Value :=
  match (if 2 ≤ id then slot A (id - 2).toNat else none) with
  | some n => .tuple #[.int .i64 n.l, .int .i64 n.lo, .int .i64 n.hi, .bool true]
  | none => .tuple #[.int .i64 0, .int .i64 0, .int .i64 0, .bool false]
theorem ent72 : enters Try.prog 72 = true := by kernel_rfl
theorem c72_nil (id : Int) (w : World) : Fun Try.prog 72 [.pointer none, .int .i64 id] w fun v w' => v = .tuple #[.int .i64 0, .int .i64 0, .int .i64 0, .bool false] ∧ Same w w' := by
  refine fun_of_W (N := 31) Try.func72 ent72 rfl rfl rfl (by simp) ?_
  have H := Hp.start0 w
  refine bin_eql59z ?_
  iterate 6 refine cond_yes rfl ?_
  exact ⟨rfl, H.keeps⟩
theorem c72_b {g r : Nat} {sv : Value} {room : Int} {A : Ar} (id : Int) (hid : id < 9223372036854775808) (ht : thereA A id = false) (w : World) (h : (arR g r sv room A).ok w) : Fun Try.prog 72 [.pointer (some ⟨g, 0, none⟩), .int .i64 id] w fun v w' => v = .tuple #[.int .i64 0, .int .i64 0, .int .i64 0, .bool false] ∧ Same w w' := by
  refine fun_of_W (N := 31) Try.func72 ent72 rfl rfl rfl (by simp) ?_
  have H := Hp.start0 w
  refine bin_eql59 ?_
  iterate 3 refine cond_no rfl ?_
  refine call_fn (c168 id hid _ h) ?_
  rintro _ w5 ⟨rfl, hk⟩
  replace H := H.same hk
  clear hk
  rw [ht]
  iterate 2 refine cond_no rfl ?_
  refine cond_yes rfl ?_
  exact ⟨rfl, H.keeps⟩
theorem c72_a {g r : Nat} {sv : Value} {room : Int} {A : Ar} (k : Nat) (hk : k < 9223372036854775806) (n : Nd) (hs : slot A k = some n) (w : World) (h : (arR g r sv room A).ok w) :
    Fun Try.prog 72 [.pointer (some ⟨g, 0, none⟩), .int .i64 ((k : Int) + 2)] w fun v w' => v = .tuple #[.int .i64 n.l, .int .i64 n.lo, .int .i64 n.hi, .bool true] ∧ Same w w' := by
  refine fun_of_W (N := 31) Try.func72 ent72 rfl rfl rfl (by simp) ?_
  have h' := h
  obtain ⟨N, B, c, l, rfl, rfl, hl, hnd, H⟩ := arR_open h
  have hw := sub2 hk
  have hk' := slot_lt hs
  rw [ars_length] at hk'
  obtain ⟨g0, rfl⟩ := own_base (H.ro 1 rfl) (by omega)
  obtain ⟨s, hs'⟩ : ∃ s, N[k]? = some s := ⟨_, List.getElem?_eq_getElem hk'⟩
  have hs2 := slot_ars hs'
  rw [hs] at hs2
  cases s with
  | inr p => cases hs2
  | inl n' =>
    cases hs2
    refine bin_eql59 ?_
    iterate 3 refine cond_no rfl ?_
    refine call_fn (c168_a k hk _ h') ?_
    rintro _ w5 ⟨rfl, hk⟩
    replace H := H.same hk
    clear hk
    rw [hs]
    iterate 3 refine cond_no rfl ?_
    refine fieldAddr_by (fa199_1 _) ?_
    refine ld_blk (H.ro 0 rfl) agg197 rfl ?_
    refine idxAddr_sl Try.underlying197 size202 k hw hk' (o' := k * 3) (by omega) ?_
    refine ld_agg (H.ro 1 rfl) encS_length agg202 size202 k rfl hs' ?_
    refine H.alloc 202 zero202 rfl ?_
    clear H
    intro g13 w13 H
    refine H.storeAll 0 rfl size202 rfl (fun v hv => encS_one (.inl n) v hv) ?_
    clear H
    intro w14 H
    refine H.draw fol (by kernel_rfl) ?_
    clear H
    intro w1 H
    refine quiet _ (fun w H => fieldAddr_by (fa202_0 _ _) ⟨rfl, rfl⟩) ?_
    refine quiet _ (fun w H => H.load 0 rfl agg3 rfl ⟨rfl, rfl⟩) ?_
    refine quiet _ (fun w H => fieldAddr_by (fa202_1 _ _) ⟨rfl, rfl⟩) ?_
    refine quiet _ (fun w H => H.load 0 rfl agg3 rfl ⟨rfl, rfl⟩) ?_
    refine quiet _ (fun w H => fieldAddr_by (fa202_2 _ _) ⟨rfl, rfl⟩) ?_
    refine quiet _ (fun w H => H.load 0 rfl agg3 rfl ⟨rfl, rfl⟩) ?_
    exact ⟨rfl, H.keeps⟩
theorem ent64 : enters Try.prog 64 = true := by kernel_rfl
theorem c64_b (n : Int) (hn : n < 0 ∨ 20000 < n) (w : World) : Fun Try.prog 64 [.int .i64 n] w fun v w' => v = .tuple #[.pointer none, .int .i64 1] ∧ Same w w' := by
  refine fun_of_W (N := 14) Try.func64 ent64 rfl rfl rfl (by simp) ?_
  have H := Hp.start0 w
  refine cond_dec (fun h1 => ?_) (fun h1 => ?_)
  · refine cond_yes (decide_eq_true (by assumption)) ?_
    refine cond_yes (decide_eq_true (by assumption)) ?_
    refine cond_yes rfl ?_
    exact ⟨rfl, H.keeps⟩
  · refine cond_no (decide_eq_false (by assumption)) ?_
    refine cond_no (decide_eq_false (by assumption)) ?_
    refine cond_yes (decide_eq_true (by omega)) ?_
    exact ⟨rfl, H.keeps⟩
/-- The parts of an arena brought into their order. -/
theorem arR_close {w0 w : World} {F : Nat → Prop} {L M : List Res} {g r : Nat} {B : Option Addr} {n c : Nat} {room : Int} {N : List Slot} {l : List (Nd × Nat)} (H : Hp w0 F w (blk g 199 (arV B n c room r) :: own 202 3 (.slice B n c) n (flat encS N) :: mapR kaN vbN r l :: L) M)
    (hn : N.length = n) (hl : IdsOk l (ars N)) : Hp w0 F w (arR g r (.slice B n c) room (ars N) :: L) M := by
  subst hn
  have H := H.front 1 rfl
  have H : Hp w0 F w (own 202 3 (.slice B N.length c) N.length (flat encS N) :: blk g 199 (arV B N.length c room r) :: mapR kaN vbN r l :: L) M := H
  have H := H.re (r' := nodesR (.slice B N.length c) (ars N)) (fun h => ⟨N, rfl, h⟩) (fun g hg => hg)
  have H := H.front 2 rfl
  have H : Hp w0 F w (mapR kaN vbN r l :: nodesR (.slice B N.length c) (ars N) :: blk g 199 (arV B N.length c room r) :: L) M := H
  have H := H.re (r' := idsR r (ars N)) (fun h => ⟨l, hl, h⟩) (fun g hg => hg)
  have H := H.front 1 rfl
  have H : Hp w0 F w (nodesR (.slice B N.length c) (ars N) :: idsR r (ars N) :: blk g 199 (arV B N.length c room r) :: L) M := H
  have H := H.front 2 rfl
  have H : Hp w0 F w (blk g 199 (arV B N.length c room r) :: nodesR (.slice B N.length c) (ars N) :: idsR r (ars N) :: L) M := H
  exact Hp.join (Ls := arP g r (.slice B N.length c) room (ars N)) H
theorem build199 {n : Int} {r : Nat} {w : World} {kk : Value → World → Prop} (h : kk (.agg (arV none 0 0 n r)) w) : buildK Try.prog 199 [(0, .int .i64 n), (2, .map (some r))] w kk :=
  build_by (fun w => by kernel_rfl) h
theorem ids_nil : IdsOk [] [] := ⟨fun n => rfl, rfl⟩
theorem c64_a (n : Int) (h0 : 0 ≤ n) (hn : n ≤ 20000) (w : World) : Fun Try.prog 64 [.int .i64 n] w fun v w' => ∃ g r, v = .tuple #[.pointer (some ⟨g, 0, none⟩), .int .i64 0] ∧ NewR w w' (arR g r (.slice none 0 0) n []) := by
  refine fun_of_W (N := 14) Try.func64 ent64 rfl rfl rfl (by simp) ?_
  have H := Hp.start0 w
  iterate 4 refine cond_no (decide_eq_false (by omega)) ?_
  refine H.makeMap kaN vbN ?_
  clear H
  intro r5 w5 H
  refine build199 ?_
  refine H.box 199 _ (cs := arV none 0 0 n r5) rfl ?_
  clear H
  intro g6 w6 H
  have H := (H.ownNil 202 3).front 1 rfl
  have H : Hp w (fun _ => False) w6 (blk g6 199 (arV none 0 0 n r5) :: own 202 3 (.slice none 0 0) 0 (flat encS []) :: mapR kaN vbN r5 [] :: []) [] := H
  exact ⟨g6, r5, rfl, (arR_close H rfl ids_nil).out⟩

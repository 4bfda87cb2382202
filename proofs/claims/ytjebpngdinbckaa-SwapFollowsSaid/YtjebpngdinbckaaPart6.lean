import Derived.Test.YtjebpngdinbckaaPart5
/- Lemmas, part 6: what the proof of the row uses. -/
section
/- Decision diagrams: level, halves, node. -/
namespace Go.Proofs.Ytjebpngdinbckaa
open Go.Dk
attribute [local irreducible] IntKind.wrap

theorem agg59 : aggT Try.prog 59 = some false := by kernel_rfl
theorem fa213_0 (g : Nat) (w : World) : (Instr.fieldAt 213 (.pointer (some ⟨g, 0, none⟩)) 0).run Try.prog w = .ok (.pointer (some ⟨g, 0, none⟩)) w := by kernel_rfl
theorem fa213_1 (g : Nat) (w : World) : (Instr.fieldAt 213 (.pointer (some ⟨g, 0, none⟩)) 1).run Try.prog w = .ok (.pointer (some ⟨g, 1, none⟩)) w := by kernel_rfl
/-- A diagram's head. -/
def bdC (B : Option Addr) (n c ga : Nat) : Array Value := #[.slice B n c, .pointer (some ⟨ga, 0, none⟩)]
def lookV (A : Ar) (id : Int) : Value := match ndA A id with
  | some d => .tuple #[.int .i64 d.l, .int .i64 d.lo, .int .i64 d.hi, .bool true]
  | none => .tuple #[.int .i64 0, .int .i64 0, .int .i64 0, .bool false]
theorem there_nd (A : Ar) (id : Int) : thereA A id = (ndA A id).isSome := by
  unfold thereA ndA
  by_cases h : 2 ≤ id
  · rw [if_pos h, decide_eq_true h, Bool.true_and]
  · rw [if_neg h, decide_eq_false h]; rfl
theorem c72 {g r : Nat} {sv : Value} {room : Int} {A : Ar} (id : Int) (hid : id < 9223372036854775808) (w : World) (h : (arR g r sv room A).ok w) :
    Fun Try.prog 72 [.pointer (some ⟨g, 0, none⟩), .int .i64 id] w fun v w' => v = lookV A id ∧ Same w w' := by
  unfold lookV
  cases hd : ndA A id with
  | none => exact c72_b id hid (by rw [there_nd, hd]; rfl) w h
  | some d =>
    obtain ⟨i, rfl, hs⟩ := nd_place hd
    exact c72_a i (by omega) d hs w h
theorem lvlB_none {n : Nat} {A : Ar} {id : Int} (h : ndA A id = none) (h0 : id ≠ 0) (h1 : id ≠ 1) : lvlB n A id = -1 := by
  unfold lvlB
  rw [if_neg (by omega)]
  unfold ndA at h
  unfold lvlA
  rw [if_neg (by omega)]
  split
  · rename_i h2
    rw [if_pos h2] at h
    rw [h]
  · rfl
theorem startB {g ga r n c : Nat} {B : Option Addr} {sv : Value} {room : Int} {A : Ar} {w : World} (hb : (blk g 213 (bdC B n c ga)).ok w) (h : (arR ga r sv room A).ok w) :
    Hp w (fun _ => False) w [] [blk g 213 (bdC B n c ga), arR ga r sv room A] :=
  Hp.start w _ _ (fun r hr => by
    rcases List.mem_cons.1 hr with rfl | hr
    · exact hb
    · rw [List.mem_singleton] at hr; subst hr; exact h) (fun r hr => by
    rcases List.mem_cons.1 hr with rfl | hr
    · rintro x rfl; exact blk_lt hb
    · rw [List.mem_singleton] at hr; subst hr; exact arR_lt h)
theorem ent213 : enters Try.prog 213 = true := by kernel_rfl
theorem c213 {g ga r n c : Nat} {B : Option Addr} {sv : Value} {room : Int} {A : Ar} (id : Int) (hid : id < 9223372036854775808) (w : World) (hb : (blk g 213 (bdC B n c ga)).ok w) (h : (arR ga r sv room A).ok w) :
    Fun Try.prog 213 [.pointer (some ⟨g, 0, none⟩), .int .i64 id] w fun v w' => v = .int .i64 (lvlB n A id) ∧ Same w w' := by
  refine fun_of_W (N := 33) Try.func213 ent213 rfl rfl rfl (by simp) ?_
  have H := startB hb h
  refine cut_rule (γ := Unit) _ rfl (fun _ => []) (fun _ w' => Hp w (fun _ => False) w' [] [blk g 213 (bdC B n c ga), arR ga r sv room A]) ⟨(), trivial, H⟩ ?_
  clear H
  rintro ⟨⟩ u w0 H
  replace H : Hp _ _ _ _ _ := H
  refine cut_rule (γ := Unit) _ rfl (fun _ => []) (fun _ w' => (id ≠ 0 ∧ id ≠ 1) ∧ Hp w (fun _ => False) w' [] [blk g 213 (bdC B n c ga), arR ga r sv room A]) ?_ ?_
  · refine cond_beq (fun h1 => ?_) (fun h1 => ?_)
    · refine cond_yes (beq_iff_eq.2 (by assumption)) ?_
      refine cond_yes (beq_iff_eq.2 (by assumption)) ?_
      refine cond_yes rfl ?_
      refine fieldAddr_by (fa213_0 _) ?_
      refine ld_blk (H.ro 0 rfl) agg32 rfl ?_
      refine len_sl Try.underlying32 ?_
      exact ⟨by rw [lvlB_end (.inl (by assumption))]; rfl, H.keeps⟩
    · refine cond_no (beq_eq_false_iff_ne.2 (by assumption)) ?_
      refine cond_no (beq_eq_false_iff_ne.2 (by assumption)) ?_
      refine cond_beq (fun h11 => ?_) (fun h11 => ?_)
      · refine fieldAddr_by (fa213_0 _) ?_
        refine ld_blk (H.ro 0 rfl) agg32 rfl ?_
        refine len_sl Try.underlying32 ?_
        exact ⟨by rw [lvlB_end (.inr (by assumption))]; rfl, H.keeps⟩
      · exact ⟨(), trivial, ⟨by assumption, by assumption⟩, H⟩
  clear H
  rintro ⟨⟩ u w1 ⟨⟨h0, h1⟩, H⟩
  replace H : Hp _ _ _ _ _ := H
  have hlk : ∀ d, ndA A id = some d → lookV A id = .tuple #[.int .i64 d.l, .int .i64 d.lo, .int .i64 d.hi, .bool true] := fun d hd => by unfold lookV; rw [hd]
  have hln : ndA A id = none → lookV A id = .tuple #[.int .i64 0, .int .i64 0, .int .i64 0, .bool false] := fun hd => by unfold lookV; rw [hd]
  have hc := fun w1 h => c72 (g := ga) (r := r) (sv := sv) (room := room) (A := A) id hid w1 h
  cases hd : ndA A id with
  | none =>
    rw [hln hd] at hc
    rw [lvlB_none hd h0 h1]
    refine fieldAddr_by (fa213_1 _) ?_
    refine ld_blk (H.ro 0 rfl) agg59 rfl ?_
    refine call_fn (hc _ (H.ro 1 rfl)) ?_ 
    rintro _ w4_ ⟨rfl, hk4_⟩ 
    replace H := H.same hk4_ 
    clear hk4_
    refine cond_no rfl ?_
    exact ⟨rfl, H.keeps⟩
  | some d =>
    rw [hlk d hd] at hc
    rw [lvlB_nd hd]
    refine fieldAddr_by (fa213_1 _) ?_
    refine ld_blk (H.ro 0 rfl) agg59 rfl ?_
    refine call_fn (hc _ (H.ro 1 rfl)) ?_ 
    rintro _ w4_ ⟨rfl, hk4_⟩ 
    replace H := H.same hk4_ 
    clear hk4_
    refine cond_yes rfl ?_
    exact ⟨rfl, H.keeps⟩
theorem ent214 : enters Try.prog 214 = true := by kernel_rfl
theorem c214 {g ga r n c : Nat} {B : Option Addr} {sv : Value} {room : Int} {A : Ar} (id : Int) (level : Nat) (hid : id < 9223372036854775808) (w : World) (hb : (blk g 213 (bdC B n c ga)).ok w) (h : (arR ga r sv room A).ok w) :
    Fun Try.prog 214 [.pointer (some ⟨g, 0, none⟩), .int .i64 id, .int .i64 (level : Int)] w fun v w' => v = .tuple #[.int .i64 (halfI' A id level false), .int .i64 (halfI' A id level true)] ∧ Same w w' := by
  refine fun_of_W (N := 33) Try.func214 ent214 rfl rfl rfl (by simp) ?_
  have H := startB hb h
  refine cut_rule (γ := Unit) _ rfl (fun _ => []) (fun _ w' => Hp w (fun _ => False) w' [] [blk g 213 (bdC B n c ga), arR ga r sv room A]) ⟨(), trivial, H⟩ ?_
  clear H
  rintro ⟨⟩ u w0 H
  replace H : Hp _ _ _ _ _ := H
  have hlk : ∀ d, ndA A id = some d → lookV A id = .tuple #[.int .i64 d.l, .int .i64 d.lo, .int .i64 d.hi, .bool true] := fun d hd => by unfold lookV; rw [hd]
  have hln : ndA A id = none → lookV A id = .tuple #[.int .i64 0, .int .i64 0, .int .i64 0, .bool false] := fun hd => by unfold lookV; rw [hd]
  have hc := fun w1 h => c72 (g := ga) (r := r) (sv := sv) (room := room) (A := A) id hid w1 h
  unfold halfI'
  cases hd : ndA A id with
  | none =>
    rw [hln hd] at hc
    simp only
    refine fieldAddr_by (fa213_1 _) ?_
    refine ld_blk (H.ro 0 rfl) agg59 rfl ?_
    refine call_fn (hc _ (H.ro 1 rfl)) ?_ 
    rintro _ w3_ ⟨rfl, hk3_⟩ 
    replace H := H.same hk3_ 
    clear hk3_
    iterate 5 refine cond_no rfl ?_
    exact ⟨rfl, H.keeps⟩
  | some d =>
    rw [hlk d hd] at hc
    simp only
    by_cases hl : d.l = level
    · rw [if_pos hl, if_pos hl]
      refine fieldAddr_by (fa213_1 _) ?_
      refine ld_blk (H.ro 0 rfl) agg59 rfl ?_
      refine call_fn (hc _ (H.ro 1 rfl)) ?_ 
      rintro _ w3_ ⟨rfl, hk3_⟩ 
      replace H := H.same hk3_ 
      clear hk3_
      iterate 4 refine cond_yes rfl ?_
      refine cond_yes (beq_iff_eq.2 (by omega)) ?_
      exact ⟨rfl, H.keeps⟩
    · rw [if_neg hl, if_neg hl]
      refine fieldAddr_by (fa213_1 _) ?_
      refine ld_blk (H.ro 0 rfl) agg59 rfl ?_
      refine call_fn (hc _ (H.ro 1 rfl)) ?_ 
      rintro _ w3_ ⟨rfl, hk3_⟩ 
      replace H := H.same hk3_ 
      clear hk3_
      iterate 4 refine cond_yes rfl ?_
      refine cond_no (beq_eq_false_iff_ne.2 (by omega)) ?_
      exact ⟨rfl, H.keeps⟩
theorem ent212 : enters Try.prog 212 = true := by kernel_rfl
theorem c212 {g ga r n c : Nat} {B : Option Addr} {sv : Value} {room : Int} {A : Ar} (k : Nat) (lo hi : Int) (hk : k < 100) (hlo : lo < 9223372036854775808) (hhi : hi < 9223372036854775808) (hok : ArOk room A) (w : World) (hb : (blk g 213 (bdC B n c ga)).ok w) (h : (arR ga r sv room A).ok w)
    (hd : ∀ x, (blk g 213 (bdC B n c ga)).foot x → ¬ (arR ga r sv room A).foot x) :
    Fun Try.prog 212 [.pointer (some ⟨g, 0, none⟩), .int .i64 (k : Int), .int .i64 lo, .int .i64 hi] w fun v w' =>
      ∃ sv', v = .tuple #[.int .i64 (nodeA room A k lo hi).2.1, .int .i64 (nodeA room A k lo hi).2.2] ∧ Turn w w' (arR ga r sv room A) (arR ga r sv' room (nodeA room A k lo hi).1) := by
  refine fun_of_W (N := 24) Try.func212 ent212 rfl rfl rfl (by simp) ?_
  have H := Hp.own1M (M := [blk g 213 (bdC B n c ga)]) h (arR_lt h) (fun s hs => by rw [List.mem_singleton] at hs; subst hs; exact hb) (fun s hs => by rw [List.mem_singleton] at hs; subst hs; rintro x rfl; exact blk_lt hb) (fun s hs => by rw [List.mem_singleton] at hs; subst hs; exact hd)
  refine cut_rule (γ := Unit) _ rfl (fun _ => []) (fun _ w' => Hp w (arR ga r sv room A).foot w' [arR ga r sv room A] [blk g 213 (bdC B n c ga)]) ⟨(), trivial, H⟩ ?_
  clear H
  rintro ⟨⟩ u w0 H
  replace H : Hp _ _ _ _ _ := H
  unfold nodeA
  refine cond_beq (fun he => ?_) (fun he => ?_)
  · rw [if_pos he]
    exact ⟨sv, rfl, H.outTurn⟩
  · rw [if_neg he]
    refine fieldAddr_by (fa213_1 _) ?_
    refine ld_blk (H.ro 0 rfl) agg59 rfl ?_
    refine call_fn (c68 (k : Int) lo hi (by omega) hlo hhi hok _ (H.get 0 rfl)) ?_
    rintro _ w1 ⟨sv', rfl, ht⟩
    replace H := H.turnBy 0 rfl ht
    exact ⟨sv', rfl, H.outTurn⟩
end Go.Proofs.Ytjebpngdinbckaa
end

section
/- Decision diagrams: build. -/
namespace Go.Proofs.Ytjebpngdinbckaa
open Go.Dk
attribute [local irreducible] IntKind.wrap

def intsN (o : List Nat) : List Value := o.map fun n : Nat => .int .i64 (n : Int)
/-- What is read of a diagram: its head and its order. -/
def bdM (g ga co : Nat) (B : Option Addr) (o : List Nat) : List Res := [blk g 213 (bdC B o.length co ga), own 3 1 (.slice B o.length co) o.length (intsN o)]
/-- A diagram at a call's begin. -/
structure BdAt (w : World) (g ga r co : Nat) (B : Option Addr) (o : List Nat) (sv0 : Value) (room : Int) (A : Ar) : Prop where
  head : ∀ s ∈ bdM g ga co B o, s.ok w
  lt : ∀ s ∈ bdM g ga co B o, ∀ x, s.foot x → x < w.heap.size
  ar : (arR ga r sv0 room A).ok w
  dis : ∀ s ∈ bdM g ga co B o, ∀ x, s.foot x → ¬ (arR ga r sv0 room A).foot x
theorem BdAt.start {w : World} {g ga r co : Nat} {B : Option Addr} {o : List Nat} {sv0 : Value} {room : Int} {A : Ar} (h : BdAt w g ga r co B o sv0 room A) : Hp w (arR ga r sv0 room A).foot w [arR ga r sv0 room A] (bdM g ga co B o) :=
  Hp.own1M h.ar (arR_lt h.ar) h.head h.lt h.dis
theorem _root_.Go.Dk.Hp.bdAt {w0 w : World} {F : Nat → Prop} {L M : List Res} {g ga r co : Nat} {B : Option Addr} {o : List Nat} {sv0 : Value} {room : Int} {A : Ar} (H : Hp w0 F w L M) (n : Nat) (hn : L[n]? = some (arR ga r sv0 room A)) (hM : ∀ s ∈ bdM g ga co B o, s ∈ M) : BdAt w g ga r co B o sv0 room A :=
  ⟨fun s hs => H.rok s (hM s hs), fun s hs => H.rlt s (hM s hs), H.get n hn, fun s hs x hx hx' => H.rdis s (hM s hs) _ (List.mem_of_getElem? hn) x hx hx'⟩
theorem id_lt {room : Int} {A : Ar} (hok : ArOk room A) {id : Int} (h : 0 ≤ lvlA A id) : id < 30000 := by
  rcases lvlA_node h with rfl | rfl | ⟨i, n, rfl, hs, _⟩
  · decide
  · decide
  · have h1 := slot_lt hs
    have h2 := hok.len
    have h3 := hok.room
    omega
theorem ok_node {room : Int} {A : Ar} (hok : ArOk room A) (k : Nat) (lo hi : Int) : ArOk room (nodeA room A k lo hi).1 := by
  unfold nodeA
  split
  · exact hok
  · exact ok_mk hok _ _ _
theorem cond_beq' {a b : Nat} {p q : Prop} (h1 : a = b → p) (h2 : a ≠ b → q) : condB (a == b) p q :=
  cond_split (fun h => h1 (by simpa using h)) (fun h => h2 (by simpa using h))
/-- What build is to answer at a level. -/
def BuildC (o : List Nat) (s g ga r co : Nat) (B : Option Addr) (room : Int) (level : Nat) : Prop := ∀ (c : Asg) (A : Ar) (sv0 : Value) (w : World), BInv o.length A → ArOk room A → BdAt w g ga r co B o sv0 room A →
  Fun Try.prog 183 [.pointer (some ⟨g, 0, none⟩), sv s, sv (pre o level c), .int .i64 (level : Int)] w fun v w' => ∃ A' sv' id e, v = .tuple #[.int .i64 id, .int .i64 e] ∧ Made o.length room A A' (FnL o s level c) id e ∧ ArOk room A' ∧ Turn w w' (arR ga r sv0 room A) (arR ga r sv' room A')
theorem ent183 : enters Try.prog 183 = true := by kernel_rfl
theorem c183_step {o : List Nat} (ho : OrdO o) (hn : o.length ≤ 8) {s : Nat} (hs : s < 2 ^ 256) {g ga r co : Nat} {B : Option Addr} {room : Int} {level : Nat} (hl : level ≤ o.length) (IH : level < o.length → BuildC o s g ga r co B room (level + 1)) : BuildC o s g ga r co B room level := by
  intro c A sv0 w hA hok hbd
  refine fun_of_W (N := 65) Try.func183 ent183 rfl rfl rfl (by simp) ?_
  have H := hbd.start
  have hp := pre_lt o level c
  refine cut_rule (γ := Nat × Nat) _ rfl (fun (g5, g6) => [(5, .pointer (some ⟨g5, 0, none⟩)), (6, .pointer (some ⟨g6, 0, none⟩))]) (fun (g5, g6) w' => Hp w (arR ga r sv0 room A).foot w' [blk g6 24 (sc (pre o level c)), blk g5 24 (sc s), arR ga r sv0 room A] (bdM g ga co B o)) ?_ ?_
  · refine H.box 24 (sv s) (cs := sc s) rfl ?_
    clear H
    intro g5 w1 H
    refine H.box 24 (sv (pre o level c)) (cs := sc (pre o level c)) rfl ?_
    clear H
    intro g6 w2 H
    exact ⟨(g5, g6), ⟨rfl, rfl, trivial⟩, H⟩
  clear H
  rintro ⟨g5, g6⟩ u w1 H
  replace H : Hp _ _ _ _ _ := H
  have hand : s &&& pre o level c < 2 ^ 256 := Nat.lt_of_le_of_lt Nat.and_le_left hs
  refine cut_rule (γ := Unit) _ rfl (fun _ => []) (fun _ w' => level < o.length ∧ Hp w (arR ga r sv0 room A).foot w' [blk g6 24 (sc (pre o level c)), blk g5 24 (sc s), arR ga r sv0 room A] (bdM g ga co B o)) ?_ ?_
  · refine H.loadAll 1 rfl agg24 size24 ?_
    refine H.loadAll 0 rfl agg24 size24 ?_
    refine call_fn (c51 s (pre o level c) _) ?_
    rintro _ w2 ⟨rfl, hk⟩
    replace H := H.same hk
    clear hk
    refine build24 ?_
    refine bin_eql24 hand (by decide) ?_
    refine cond_beq' (fun h0 => ?_) (fun h0 => ?_)
    · exact ⟨A, sv0, 0, 0, rfl, Made.refl hA (build_zero ho hl h0 A), hok, (H.front 2 rfl).outTurn⟩
    · refine H.loadAll 0 rfl agg24 size24 ?_
      refine bin_eql24 hand hp ?_
      refine cond_beq' (fun h1 => ?_) (fun h1 => ?_)
      · exact ⟨A, sv0, 1, 0, rfl, Made.refl hA (build_all ho hl h1 A), hok, (H.front 2 rfl).outTurn⟩
      · exact ⟨(), trivial, build_lt ho hl h0 h1, H⟩
  clear H hand
  rintro ⟨⟩ u w2 ⟨hlt, H⟩
  replace H : Hp _ _ _ _ _ := H
  have hF := FnL_indep o s level c
  have hcol : o.getD level 0 < o.length := ho.get_lt hlt
  have hget : (intsN o)[level]? = some (.int .i64 ((o.getD level 0 : Nat) : Int)) := by
    unfold intsN
    rw [List.getElem?_map, List.getD_eq_getElem?_getD, List.getElem?_eq_getElem hlt]; rfl
  refine cut_rule (γ := Unit) _ rfl (fun _ => [(10, .int .i64 ((o.getD level 0 : Nat) : Int))]) (fun _ w' => Hp w (arR ga r sv0 room A).foot w' [blk g6 24 (sc (pre o level c)), blk g5 24 (sc s), arR ga r sv0 room A] (bdM g ga co B o)) ?_ ?_
  · refine fieldAddr_by (fa213_0 _) ?_
    refine ld_blk (H.ro 0 rfl) agg32 rfl ?_
    obtain ⟨gB, rfl⟩ := own_base (H.ro 1 rfl) (by omega)
    refine idxAddr_sl Try.underlying32 (s := 1) size3 level rfl hlt (o' := level) (by omega) ?_
    refine load_cell agg3 ((own_cell (H.ro 1 rfl) level (by omega)).trans hget) ?_
    exact ⟨(), ⟨rfl, trivial⟩, H⟩
  clear H
  rintro ⟨⟩ u w3 H
  replace H : Hp _ _ _ _ _ := H
  refine cut_rule (γ := Int × Int × Ar × Value) _ rfl (fun (id, e, _) => [(11, .int .i64 id), (12, .int .i64 e)]) (fun (id, e, A1, sv1) w' => (Made o.length room A A1 (FnL o s (level + 1) (upA c level false)) id e ∧ ArOk room A1) ∧ Hp w (arR ga r sv0 room A).foot w' [blk g6 24 (sc (pre o level c)), blk g5 24 (sc s), arR ga r sv1 room A1] (bdM g ga co B o)) ?_ ?_
  · refine H.drawC [blk g6 24 (sc (pre o level c)), blk g5 24 (sc s)] (fun u H => (H.front 2 rfl).forget) fol (by kernel_rfl) ?_
    clear H
    intro w4 H
    refine quiet _ (fun w H => H.loadAll 1 rfl agg24 size24 ⟨rfl, rfl⟩) ?_
    refine quiet _ (fun w H => H.loadAll 0 rfl agg24 size24 ⟨rfl, rfl⟩) ?_
    refine call_fn (c49_yes _ (o.getD level 0) false (by omega) _) ?_
    rintro _ w5 ⟨rfl, hk⟩
    replace H := H.same hk
    clear hk
    refine ⟨.inl (H.front 2 rfl).forget, ?_⟩
    rw [half_pre ho]
    have hwl : IntKind.i64.wrap ((level : Int) + 1) = ((level + 1 : Nat) : Int) := by rw [wrap_i64_in (by omega) (by omega)]; rfl
    have hc := IH hlt (upA c level false) A sv0 w5 hA hok (H.bdAt 2 rfl fun s hs => hs)
    rw [← hwl] at hc
    refine call_fn hc ?_
    rintro _ w6 ⟨A1, sv1, id, e, rfl, hmade, hok1, ht⟩
    replace H := H.turnBy 2 rfl ht
    refine ⟨.inl (H.front 2 rfl).forget, ?_⟩
    exact ⟨(id, e, A1, sv1), ⟨rfl, rfl, trivial⟩, ⟨hmade, hok1⟩, H⟩
  clear H
  rintro ⟨lo, e, A1, sv1⟩ u w4 ⟨⟨hm1, hok1⟩, H⟩
  replace H : Hp _ _ _ _ _ := H
  have hm1' : Made o.length room A A1 (fun b => FnL o s level c (upA b level false)) lo e := by rw [FnL_up]; exact hm1
  clear hm1
  refine cut_rule (γ := Unit) _ rfl (fun _ => []) (fun _ w' => e = 0 ∧ Hp w (arR ga r sv0 room A).foot w' [blk g6 24 (sc (pre o level c)), blk g5 24 (sc s), arR ga r sv1 room A1] (bdM g ga co B o)) ?_ ?_
  · refine cond_bne (fun he => ?_) (fun he => ?_)
    · exact ⟨A1, sv1, 0, e, rfl, made_lo hF hm1' he, hok1, (H.front 2 rfl).outTurn⟩
    · exact ⟨(), trivial, he, H⟩
  clear H
  rintro ⟨⟩ u w5 ⟨rfl, H⟩
  replace H : Hp _ _ _ _ _ := H
  refine cut_rule (γ := Int × Int × Ar × Value) _ rfl (fun (id, e, _) => [(13, .int .i64 id), (12, .int .i64 e)]) (fun (id, e, A2, sv2) w' => (Made o.length room A1 A2 (FnL o s (level + 1) (upA c level true)) id e ∧ ArOk room A2) ∧ Hp w (arR ga r sv0 room A).foot w' [blk g6 24 (sc (pre o level c)), blk g5 24 (sc s), arR ga r sv2 room A2] (bdM g ga co B o)) ?_ ?_
  · refine H.drawC [blk g6 24 (sc (pre o level c)), blk g5 24 (sc s)] (fun u H => (H.front 2 rfl).forget) fol (by kernel_rfl) ?_
    clear H
    intro w4 H
    refine quiet _ (fun w H => H.loadAll 1 rfl agg24 size24 ⟨rfl, rfl⟩) ?_
    refine quiet _ (fun w H => H.loadAll 0 rfl agg24 size24 ⟨rfl, rfl⟩) ?_
    refine call_fn (c49_yes _ (o.getD level 0) true (by omega) _) ?_
    rintro _ w5 ⟨rfl, hk⟩
    replace H := H.same hk
    clear hk
    refine ⟨.inl (H.front 2 rfl).forget, ?_⟩
    rw [half_pre ho]
    have hwl : IntKind.i64.wrap ((level : Int) + 1) = ((level + 1 : Nat) : Int) := by rw [wrap_i64_in (by omega) (by omega)]; rfl
    have hc := IH hlt (upA c level true) A1 sv1 w5 hm1'.inv hok1 (H.bdAt 2 rfl fun s hs => hs)
    rw [← hwl] at hc
    refine call_fn hc ?_
    rintro _ w6 ⟨A2, sv2, id, e, rfl, hmade, hok2, ht⟩
    replace H := H.turnBy 2 rfl ht
    refine ⟨.inl (H.front 2 rfl).forget, ?_⟩
    exact ⟨(id, e, A2, sv2), ⟨rfl, rfl, trivial⟩, ⟨hmade, hok2⟩, H⟩
  clear H
  rintro ⟨hi, e, A2, sv2⟩ u w6 ⟨⟨hm2, hok2⟩, H⟩
  replace H : Hp _ _ _ _ _ := H
  have hm2' : Made o.length room A1 A2 (fun b => FnL o s level c (upA b level true)) hi e := by rw [FnL_up]; exact hm2
  clear hm2
  refine cut_rule (γ := Unit) _ rfl (fun _ => []) (fun _ w' => e = 0 ∧ Hp w (arR ga r sv0 room A).foot w' [blk g6 24 (sc (pre o level c)), blk g5 24 (sc s), arR ga r sv2 room A2] (bdM g ga co B o)) ?_ ?_
  · refine cond_bne (fun he => ?_) (fun he => ?_)
    · exact ⟨A2, sv2, 0, e, rfl, made_hi hF hm1' hm2' he, hok2, (H.front 2 rfl).outTurn⟩
    · exact ⟨(), trivial, he, H⟩
  clear H
  rintro ⟨⟩ u w7 ⟨rfl, H⟩
  replace H : Hp _ _ _ _ _ := H
  have hlo := id_lt hok2 ((hm1'.ok.ext hm1'.inv.inv hm2'.inv.inv hm2'.ext).there)
  have hhi := id_lt hok2 hm2'.ok.there
  have hbd2 := H.bdAt 2 rfl fun s hs => hs
  refine call_fn (c212 (B := B) (n := o.length) (c := co) level lo hi (by omega) (by omega) (by omega) hok2 _ (hbd2.head _ (.head _)) hbd2.ar (hbd2.dis _ (.head _))) ?_
  rintro _ w8 ⟨sv3, rfl, ht⟩
  replace H := H.turnBy 2 rfl ht
  exact ⟨_, sv3, _, _, rfl, made_both hA hlt (by omega) hF hm1' hm2', ok_node hok2 level lo hi, (H.front 2 rfl).outTurn⟩
theorem c183 {o : List Nat} (ho : OrdO o) (hn : o.length ≤ 8) {s : Nat} (hs : s < 2 ^ 256) {g ga r co : Nat} {B : Option Addr} {room : Int} : ∀ (k level : Nat), o.length - level ≤ k → level ≤ o.length → BuildC o s g ga r co B room level
  | 0, level, hk, hl => c183_step ho hn hs hl fun h => by omega
  | k + 1, level, hk, hl => c183_step ho hn hs hl fun h => c183 ho hn hs k (level + 1) (by omega) (by omega)
end Go.Proofs.Ytjebpngdinbckaa
end

section
/- Decision diagrams: Of, there. -/
namespace Go.Proofs.Ytjebpngdinbckaa
open Go.Dk
attribute [local irreducible] IntKind.wrap

theorem bin_eql123 {xo yo : Operand} {w : World} {kk : Value → World → Prop} {g : Nat} (h : kk (.bool false) w) : binK Try.prog .eql 123 xo yo (.pointer (some ⟨g, 0, none⟩)) (.pointer none) w kk :=
  bin_by (fun w => by kernel_rfl) h
theorem ent108 : enters Try.prog 108 = true := by kernel_rfl
theorem c108 {o : List Nat} (ho : OrdO o) (hn : o.length ≤ 8) {s : Nat} (hs : s < 2 ^ 256) {g ga r co : Nat} {B : Option Addr} {room : Int} {A : Ar} {sv0 : Value} (w : World) (hA : BInv o.length A) (hok : ArOk room A) (hbd : BdAt w g ga r co B o sv0 room A) :
    Fun Try.prog 108 [.pointer (some ⟨g, 0, none⟩), sv s] w fun v w' => ∃ A' sv' id e, v = .tuple #[.int .i64 id, .int .i64 e] ∧
      ((lessN s (allN o.length) ≠ 0 ∧ A' = A ∧ id = 0 ∧ e = 1) ∨ (lessN s (allN o.length) = 0 ∧ Made o.length room A A' (FnS o s) id e)) ∧ ArOk room A' ∧ Turn w w' (arR ga r sv0 room A) (arR ga r sv' room A') := by
  refine fun_of_W (N := 29) Try.func108 ent108 rfl rfl rfl (by simp) ?_
  have H := hbd.start
  refine cut_rule (γ := Nat) _ rfl (fun g3 => [(3, .pointer (some ⟨g3, 0, none⟩))]) (fun g3 w' => Hp w (arR ga r sv0 room A).foot w' [blk g3 24 (sc s), arR ga r sv0 room A] (bdM g ga co B o)) ?_ ?_
  · refine H.box 24 (sv s) (cs := sc s) rfl ?_
    clear H
    intro g3 w1 H
    exact ⟨g3, ⟨rfl, trivial⟩, H⟩
  clear H
  rintro g3 u w1 H
  replace H : Hp _ _ _ _ _ := H
  refine cut_rule (γ := Unit) _ rfl (fun _ => []) (fun _ w' => Hp w (arR ga r sv0 room A).foot w' [blk g3 24 (sc s), arR ga r sv0 room A] (bdM g ga co B o)) ?_ ?_
  · refine bin_eql123 ?_
    refine cond_no rfl ?_
    exact ⟨(), trivial, H⟩
  clear H
  rintro ⟨⟩ u w2 H
  replace H : Hp _ _ _ _ _ := H
  refine cut_rule (γ := Nat) _ rfl (fun g6 => [(6, .pointer (some ⟨g6, 0, none⟩))]) (fun g6 w' => Hp w (arR ga r sv0 room A).foot w' [blk g6 24 (sc (allN o.length)), blk g3 24 (sc s), arR ga r sv0 room A] (bdM g ga co B o)) ?_ ?_
  · refine fieldAddr_by (fa213_0 _) ?_
    refine ld_blk (H.ro 0 rfl) agg32 rfl ?_
    refine len_sl Try.underlying32 ?_
    refine call_fn (c37_yes o.length hn _) ?_
    rintro _ w3 ⟨rfl, hk⟩
    replace H := H.same hk
    clear hk
    refine H.alloc 24 (cs := sc 0) zero24 sc_zero ?_
    clear H
    intro g6 w4 H
    refine H.storeAll 0 rfl size24 rfl (sc_one _) ?_
    clear H
    intro w5 H
    exact ⟨g6, ⟨rfl, trivial⟩, H⟩
  clear H
  rintro g6 u w3 H
  replace H : Hp _ _ _ _ _ := H
  refine cut_rule (γ := Unit) _ rfl (fun _ => []) (fun _ w' => lessN s (allN o.length) = 0 ∧ Hp w (arR ga r sv0 room A).foot w' [blk g6 24 (sc (allN o.length)), blk g3 24 (sc s), arR ga r sv0 room A] (bdM g ga co B o)) ?_ ?_
  · refine H.loadAll 1 rfl agg24 size24 ?_
    refine H.loadAll 0 rfl agg24 size24 ?_
    refine call_fn (c53 s (allN o.length) hs _) ?_
    rintro _ w4 ⟨rfl, hk⟩
    replace H := H.same hk
    clear hk
    refine cond_split (fun hb => ?_) (fun hb => ?_)
    · exact ⟨A, sv0, 0, 1, rfl, .inl ⟨by simpa using hb, rfl, rfl, rfl⟩, hok, (H.front 2 rfl).outTurn⟩
    · exact ⟨(), trivial, by simpa using hb, H⟩
  clear H
  rintro ⟨⟩ u w4 ⟨hz, H⟩
  replace H : Hp _ _ _ _ _ := H
  refine H.loadAll 1 rfl agg24 size24 ?_
  refine H.loadAll 0 rfl agg24 size24 ?_
  have hc := c183 ho hn hs (B := B) (room := room) (g := g) (ga := ga) (r := r) (co := co) o.length 0 (by omega) (by omega) (fun _ => false) A sv0 w4 hA hok (H.bdAt 2 rfl fun s hs => hs)
  rw [pre_zero, FnL_zero] at hc
  refine call_fn hc ?_
  rintro _ w5 ⟨A', sv', id, e, rfl, hm, hok', ht⟩
  replace H := H.turnBy 2 rfl ht
  exact ⟨A', sv', id, e, rfl, .inr ⟨hz, hm⟩, hok', (H.front 2 rfl).outTurn⟩
theorem ent184 : enters Try.prog 184 = true := by kernel_rfl
theorem c184 {g ga r n c : Nat} {B : Option Addr} {sv0 : Value} {room : Int} {A : Ar} (ids : List Int) (Bi : Option Addr) (ci : Nat) (hil : ids.length ≤ 1000000000) (hid : ∀ id ∈ ids, id < 9223372036854775808) (w : World) (hb : (blk g 213 (bdC B n c ga)).ok w) (h : (arR ga r sv0 room A).ok w)
    (hs : Sl w (.slice Bi ids.length ci) 1 ids.length (intsI ids)) :
    Fun Try.prog 184 [.pointer (some ⟨g, 0, none⟩), .slice Bi ids.length ci] w fun v w' => v = .bool (ids.all fun id => decide (0 ≤ lvlA A id)) ∧ Same w w' := by
  refine fun_of_W (N := 20) Try.func184 ent184 rfl rfl rfl (by simp) ?_
  have H := startB hb h
  refine cut_rule (γ := Unit) _ rfl (fun _ => []) (fun _ w' => Hp w (fun _ => False) w' [] [blk g 213 (bdC B n c ga), arR ga r sv0 room A]) ⟨(), trivial, H⟩ ?_
  clear H
  rintro ⟨⟩ u w0 H
  replace H : Hp _ _ _ _ _ := H
  refine cut_rule (γ := Unit) _ rfl (fun _ => []) (fun _ w' => Hp w (fun _ => False) w' [] [blk g 213 (bdC B n c ga), arR ga r sv0 room A]) ?_ ?_
  · refine bin_eql123 ?_
    refine cond_no rfl ?_
    exact ⟨(), trivial, H⟩
  clear H
  rintro ⟨⟩ u w1 H
  replace H : Hp _ _ _ _ _ := H
  refine cut_rule (γ := Unit) _ rfl (fun _ => []) (fun _ w' => (∀ id ∈ ids, 0 ≤ lvlA A id) ∧ Hp w (fun _ => False) w' [] [blk g 213 (bdC B n c ga), arR ga r sv0 room A]) ?_ ?_
  · refine len_sl Try.underlying32 ?_
    refine loop_rule (γ := Nat) _ rfl (fun i => [(11, .int .i64 (i : Int))]) (fun i w' => (i ≤ ids.length ∧ ∀ id ∈ ids.take i, 0 ≤ lvlA A id) ∧ Hp w (fun _ => False) w' [] [blk g 213 (bdC B n c ga), arR ga r sv0 room A]) (fun i => ids.length - i) 0 ⟨rfl, trivial⟩ ⟨⟨Nat.zero_le _, by simp⟩, H⟩ ?_
    clear H
    rintro i u w2 ⟨⟨hi, hall⟩, H⟩
    replace H : Hp _ _ _ _ _ := H
    refine cond_dec (fun h7 => ?_) (fun h7 => ?_)
    · obtain ⟨k, hk⟩ : ∃ k, ids[i]? = some k := ⟨_, List.getElem?_eq_getElem (by omega)⟩
      obtain ⟨gi, oi, rfl⟩ := hs.A (by omega)
      have hgk : (intsI ids)[i]? = some (.int .i64 k) := by rw [intsI, List.getElem?_map, hk]; rfl
      have hkm := List.mem_of_getElem? hk
      have htk : ids.take (i + 1) = ids.take i ++ [k] := by rw [List.take_add_one, hk]; rfl
      refine cut_rule (γ := Unit) _ rfl (fun _ => []) (fun _ w' => 0 ≤ lvlA A k ∧ Hp w (fun _ => False) w' [] [blk g 213 (bdC B n c ga), arR ga r sv0 room A]) ?_ ?_
      · refine cut_rule (γ := Unit) _ rfl (fun _ => [(6, .int .i64 k)]) (fun _ w' => Hp w (fun _ => False) w' [] [blk g 213 (bdC B n c ga), arR ga r sv0 room A]) ?_ ?_
        · refine idxAddr_sl Try.underlying32 (s := 1) size3 i rfl (by omega) (o' := oi + i) (by omega) ?_
          refine H.loadSl (i := i) hs agg3 _ rfl hgk ?_
          exact ⟨(), ⟨rfl, trivial⟩, H⟩
        clear H
        rintro ⟨⟩ u w3 H
        replace H : Hp _ _ _ _ _ := H
        refine call_fn (c213 k (hid k hkm) _ (H.ro 0 rfl) (H.ro 1 rfl)) ?_
        rintro _ w4 ⟨rfl, hk4⟩
        replace H := H.same hk4
        clear hk4
        refine cond_dec (fun h9 => ?_) (fun h9 => ?_)
        · refine ⟨?_, H.keeps⟩
          have : (ids.all fun id => decide (0 ≤ lvlA A id)) = false := by
            rw [Bool.eq_false_iff]
            intro hh
            have h1 := of_decide_eq_true ((List.all_eq_true.1 hh) k hkm)
            have h2 := (lvlB_there (n := n)).2 h1
            omega
          rw [this]; rfl
        · exact ⟨(), trivial, (lvlB_there (n := n)).1 (by omega), H⟩
      · clear H
        rintro ⟨⟩ u w3 ⟨hk0, H⟩
        refine ⟨i + 1, by show ids.length - (i + 1) < ids.length - i; omega, ⟨up (by omega), trivial⟩, ⟨by show i + 1 ≤ ids.length; omega, fun id hid' => ?_⟩, H⟩
        rw [htk] at hid'
        rcases List.mem_append.1 hid' with hx | hx
        · exact hall id hx
        · rw [List.mem_singleton] at hx; subst hx; exact hk0
    · rw [List.take_of_length_le (by omega)] at hall
      exact ⟨(), trivial, hall, H⟩
  clear H
  rintro ⟨⟩ u w2 ⟨hall, H⟩
  replace H : Hp _ _ _ _ _ := H
  have : (ids.all fun id => decide (0 ≤ lvlA A id)) = true := List.all_eq_true.2 fun id hid => decide_eq_true (hall id hid)
  rw [this]
  exact ⟨rfl, H.keeps⟩
end Go.Proofs.Ytjebpngdinbckaa
end

section
/- Decision diagrams: the reference's Of; Size. -/
namespace Go.Proofs.Ytjebpngdinbckaa
open Go.Dk
attribute [local irreducible] IntKind.wrap

theorem ent109 : enters Try.prog 109 = true := by kernel_rfl
theorem c109 (s n : Nat) (hs : s < 2 ^ 256) (hn : n ≤ 8) (w : World) : Fun Try.prog 109 [sv s, .int .i64 (n : Int)] w fun v w' => v = .bool (lessN s (ofFlags (allFlags n)) == 0) ∧ Same w w' := by
  refine fun_of_W (N := 10) Try.func109 ent109 rfl rfl rfl (by simp) ?_
  have H := Hp.start0 w
  refine cut_rule (γ := Nat) _ rfl (fun g2 => [(2, .pointer (some ⟨g2, 0, none⟩))]) (fun g2 w' => Hp w (fun _ => False) w' [blk g2 24 (sc s)] []) ?_ ?_
  · refine H.box 24 (sv s) (cs := sc s) rfl ?_
    clear H
    intro g1 w1 H
    exact ⟨g1, ⟨rfl, trivial⟩, H⟩
  clear H
  rintro g2 u w1 H
  replace H : Hp _ _ _ _ _ := H
  refine H.draw fol (by kernel_rfl) ?_
  clear H
  intro w2 H
  refine quiet _ (fun w H => H.loadAll 0 rfl agg24 size24 ⟨rfl, rfl⟩) ?_
  refine call_fn (c39 n hn _) ?_
  rintro _ w3 ⟨A, c, rfl, hn3⟩
  have H2 := H.addNew hn3
  clear H
  refine ⟨.inl H2.forget, ?_⟩
  refine call_fn (c38 (allFlags n) (by simp [allFlags]) A c _ (own_Sl (H2.get 0 rfl))) ?_
  rintro _ w4 ⟨rfl, hk⟩
  replace H2 := H2.same hk
  clear hk
  refine ⟨.inl H2.forget, ?_⟩
  refine call_fn (c54 s _ hs _) ?_
  rintro _ w5 ⟨rfl, hk⟩
  replace H2 := H2.same hk
  refine ⟨.inl H2.forget, ?_⟩
  exact ⟨rfl, H2.keeps⟩
theorem c109' (s n : Nat) (hs : s < 2 ^ 256) (hn : n ≤ 8) (w : World) : Fun Try.prog 109 [sv s, .int .i64 (n : Int)] w fun v w' => v = .bool (lessN s (allN n) == 0) ∧ Same w w' := by
  have := c109 s n hs hn w
  rwa [flags_all] at this
theorem ent111 : enters Try.prog 111 = true := by kernel_rfl
theorem c111 {g ga r n c : Nat} {B : Option Addr} {sv0 : Value} {room : Int} {A : Ar} (hok : ArOk room A) (id : Int) (hid : id < 9223372036854775808) (w : World) (hb : (blk g 213 (bdC B n c ga)).ok w) (h : (arR ga r sv0 room A).ok w) :
    Fun Try.prog 111 [.pointer (some ⟨g, 0, none⟩), .int .i64 id] w fun v w' => v = .int .i64 ((reachL A id).length : Int) ∧ Same w w' := by
  refine fun_of_W (N := 14) Try.func111 ent111 rfl rfl rfl (by simp) ?_
  have H := startB hb h
  refine cut_rule (γ := Unit) _ rfl (fun _ => []) (fun _ w' => Hp w (fun _ => False) w' [] [blk g 213 (bdC B n c ga), arR ga r sv0 room A]) ⟨(), trivial, H⟩ ?_
  clear H
  rintro ⟨⟩ u w0 H
  replace H : Hp _ _ _ _ _ := H
  refine cut_rule (γ := Unit) _ rfl (fun _ => []) (fun _ w' => Hp w (fun _ => False) w' [] [blk g 213 (bdC B n c ga), arR ga r sv0 room A]) ?_ ?_
  · refine bin_eql123 ?_
    refine cond_no rfl ?_
    exact ⟨(), trivial, H⟩
  clear H
  rintro ⟨⟩ u w1 H
  replace H : Hp _ _ _ _ _ := H
  refine fieldAddr_by (fa213_1 _) ?_
  refine ld_blk (H.ro 0 rfl) agg59 rfl ?_
  refine call_fn (c74 hok id hid _ (H.ro 1 rfl)) ?_
  rintro _ w2 ⟨B2, c2, rfl, hn⟩
  replace H := H.addNew hn
  refine len_sl Try.underlying32 ?_
  exact ⟨rfl, H.keeps⟩
end Go.Proofs.Ytjebpngdinbckaa
end

section
/- Decision diagrams: Sweep. -/
namespace Go.Proofs.Ytjebpngdinbckaa
open Go.Dk
attribute [local irreducible] IntKind.wrap

theorem bin_neq123 {xo yo : Operand} {w : World} {kk : Value → World → Prop} {g : Nat} (h : kk (.bool true) w) : binK Try.prog .neq 123 xo yo (.pointer (some ⟨g, 0, none⟩)) (.pointer none) w kk :=
  bin_by (fun w => by kernel_rfl) h
theorem ent115 : enters Try.prog 115 = true := by kernel_rfl
theorem c115 {g ga r n c : Nat} {B : Option Addr} {sv0 : Value} {room : Int} {A : Ar} (hok : ArOk room A) (ks : List Int) (hks : ∀ k ∈ ks, k < 9223372036854775808) (hkl : ks.length < 4611686018427387904) {S : Nat → Prop} {B0 : Option Addr} {c0 : Nat} (w : World) (hb : (blk g 213 (bdC B n c ga)).ok w) (h : (arR ga r sv0 room A).ok w)
    (hd : ¬ (arR ga r sv0 room A).foot g) (hkeep : (sl S (.slice B0 ks.length c0) 1 ks.length (intsI ks)).ok w) (hS : ∀ x, S x → x < w.heap.size) (hdis : ∀ x, S x → ¬ (arR ga r sv0 room A).foot x) :
    Fun Try.prog 115 [.pointer (some ⟨g, 0, none⟩), .slice B0 ks.length c0] w fun v w' => v = .tuple #[] ∧ Turn w w' (arR ga r sv0 room A) (arR ga r sv0 room (sweepA A ks)) := by
  refine fun_of_W (N := 12) Try.func115 ent115 rfl rfl rfl (by simp) ?_
  have hM : ∀ s ∈ [blk g 213 (bdC B n c ga), sl S (.slice B0 ks.length c0) 1 ks.length (intsI ks)], s.ok w ∧ (∀ x, s.foot x → x < w.heap.size) ∧ ∀ x, s.foot x → ¬ (arR ga r sv0 room A).foot x := fun s hs => by
    rcases List.mem_cons.1 hs with rfl | hs
    · exact ⟨hb, by rintro x rfl; exact blk_lt hb, by rintro x rfl; exact hd⟩
    · rw [List.mem_singleton] at hs; subst hs; exact ⟨hkeep, hS, hdis⟩
  have H := Hp.own1M (M := [blk g 213 (bdC B n c ga), sl S (.slice B0 ks.length c0) 1 ks.length (intsI ks)]) h (arR_lt h) (fun s hs => (hM s hs).1) (fun s hs => (hM s hs).2.1) (fun s hs => (hM s hs).2.2)
  refine bin_neq123 ?_
  refine cond_yes rfl ?_
  refine fieldAddr_by (fa213_1 _) ?_
  refine ld_blk (H.ro 0 rfl) agg59 rfl ?_
  refine call_fn (c66 hok ks hks hkl _ (H.get 0 rfl) (H.ro 1 rfl) (H.rlt _ (.tail _ (.head _))) (fun x hx => H.rdis _ (.tail _ (.head _)) _ (.head _) x hx)) ?_
  rintro _ w2 ⟨rfl, ht⟩
  replace H := H.turnBy 0 rfl ht
  exact ⟨rfl, H.outTurn⟩
end Go.Proofs.Ytjebpngdinbckaa
end

section
/- Decision diagrams: the reference's Order. -/
namespace Go.Proofs.Ytjebpngdinbckaa
open Go.Dk
attribute [local irreducible] IntKind.wrap

def orderB (ks : List Int) : Bool := decide (ks.length ≤ 8) && (List.range ks.length).all fun i => ks.count (i : Int) == 1
theorem count_snoc {l : List Int} {i : Nat} {x : Int} (k : Int) (hx : l[i]? = some x) : (l.take (i + 1)).count k = (l.take i).count k + if x = k then 1 else 0 := by
  rw [List.take_add_one, hx, List.count_append]
  by_cases h : x = k
  · subst h; simp
  · simp [h]
theorem ent101 : enters Try.prog 101 = true := by kernel_rfl
theorem c101 (ks : List Int) (B : Option Addr) (c : Nat) (w : World) (hl : ks.length ≤ 9223372036854775807) (hs : Sl w (.slice B ks.length c) 1 ks.length (intsI ks)) :
    Fun Try.prog 101 [.slice B ks.length c] w fun v w' => v = .bool (orderB ks) ∧ Same w w' := by
  refine fun_of_W (N := 31) Try.func101 ent101 rfl rfl rfl (by simp) ?_
  have H := Hp.start0 w
  refine cut_rule (γ := Unit) _ rfl (fun _ => []) (fun _ w' => Hp w (fun _ => False) w' [] []) ⟨(), trivial, H⟩ ?_
  clear H
  rintro ⟨⟩ u w0 H
  replace H : Hp _ _ _ _ _ := H
  refine cut_rule (γ := Unit) _ rfl (fun _ => []) (fun _ w' => ks.length ≤ 8 ∧ Hp w (fun _ => False) w' [] []) ?_ ?_
  · refine len_sl Try.underlying32 ?_
    refine cond_dec (fun h8 => ?_) (fun h8 => ?_)
    · have : orderB ks = false := by unfold orderB; rw [decide_eq_false (by omega)]; rfl
      rw [this]
      exact ⟨rfl, H.keeps⟩
    · exact ⟨(), trivial, by omega, H⟩
  clear H
  rintro ⟨⟩ u w1 ⟨h8, H⟩
  replace H : Hp _ _ _ _ _ := H
  refine cut_rule (γ := Unit) _ rfl (fun _ => []) (fun _ w' => (∀ i : Nat, i < ks.length → ks.count (i : Int) = 1) ∧ Hp w (fun _ => False) w' [] []) ?_ ?_
  · refine loop_rule (γ := Nat) _ rfl (fun i => [(3, .int .i64 (i : Int))]) (fun i w' => (i ≤ ks.length ∧ ∀ i' : Nat, i' < i → ks.count (i' : Int) = 1) ∧ Hp w (fun _ => False) w' [] []) (fun i => ks.length - i) 0 ⟨rfl, trivial⟩ ⟨⟨Nat.zero_le _, fun i h => by omega⟩, H⟩ ?_
    clear H
    rintro i u w2 ⟨⟨hi, hall⟩, H⟩
    replace H : Hp _ _ _ _ _ := H
    refine len_sl Try.underlying32 ?_
    refine cond_dec (fun h7 => ?_) (fun h7 => ?_)
    · refine cut_rule (γ := Unit) _ rfl (fun _ => []) (fun _ w' => ks.count (i : Int) = 1 ∧ Hp w (fun _ => False) w' [] []) ?_ ?_
      · refine cut_rule (γ := Unit) _ rfl (fun _ => [(4, .int .i64 0)]) (fun _ w' => Hp w (fun _ => False) w' [] []) ⟨(), ⟨rfl, trivial⟩, H⟩ ?_
        clear H
        rintro ⟨⟩ u w3 H
        replace H : Hp _ _ _ _ _ := H
        refine cut_rule (γ := Unit) _ rfl (fun _ => [(4, .int .i64 ((ks.count (i : Int) : Nat) : Int))]) (fun _ w' => Hp w (fun _ => False) w' [] []) ?_ ?_
        · refine loop_rule (γ := Nat) _ rfl (fun j => [(5, .int .i64 (j : Int)), (4, .int .i64 (((ks.take j).count (i : Int) : Nat) : Int))]) (fun j w' => j ≤ ks.length ∧ Hp w (fun _ => False) w' [] []) (fun j => ks.length - j) 0 ⟨rfl, rfl, trivial⟩ ⟨Nat.zero_le _, H⟩ ?_
          clear H
          rintro j u w4 ⟨hj, H⟩
          replace H : Hp _ _ _ _ _ := H
          refine len_sl Try.underlying32 ?_
          refine cond_dec (fun h9 => ?_) (fun h9 => ?_)
          · obtain ⟨k, hk⟩ : ∃ k, ks[j]? = some k := ⟨_, List.getElem?_eq_getElem (by omega)⟩
            obtain ⟨g2, o2, rfl⟩ := hs.A (by omega)
            have hgk : (intsI ks)[j]? = some (.int .i64 k) := by rw [intsI, List.getElem?_map, hk]; rfl
            have hsn := count_snoc (i : Int) hk
            have hcl : (ks.take j).count (i : Int) ≤ 8 := by
              have h1 := List.count_le_length (a := (i : Int)) (l := ks.take j)
              rw [List.length_take] at h1
              omega
            refine cut_rule (γ := Unit) _ rfl (fun _ => [(4, .int .i64 (((ks.take (j + 1)).count (i : Int) : Nat) : Int))]) (fun _ w' => Hp w (fun _ => False) w' [] []) ?_ ?_
            · refine idxAddr_sl Try.underlying32 (s := 1) size3 j rfl (by omega) (o' := o2 + j) (by omega) ?_
              refine H.loadSl (i := j) hs agg3 _ rfl hgk ?_
              refine cond_beq (fun he => ?_) (fun he => ?_)
              · rw [if_pos he] at hsn
                rw [hsn]
                exact ⟨(), ⟨up (by omega), trivial⟩, H⟩
              · rw [if_neg he, Nat.add_zero] at hsn
                rw [hsn]
                exact ⟨(), ⟨rfl, trivial⟩, H⟩
            · clear H
              rintro ⟨⟩ u w5 H
              exact ⟨j + 1, by show ks.length - (j + 1) < ks.length - j; omega, ⟨up (by omega), rfl, trivial⟩, by show j + 1 ≤ ks.length; omega, H⟩
          · exact ⟨(), ⟨by rw [List.take_of_length_le (by omega)]; rfl, trivial⟩, H⟩
        · clear H
          rintro ⟨⟩ u w4 H
          replace H : Hp _ _ _ _ _ := H
          refine cond_bne (fun h9 => ?_) (fun h9 => ?_)
          · have : orderB ks = false := by
              unfold orderB
              have : ((List.range ks.length).all fun i => ks.count (i : Int) == 1) = false := by
                rw [Bool.eq_false_iff]
                intro hh
                have h1 := (List.all_eq_true.1 hh) i (List.mem_range.2 (by omega))
                have h2 : ks.count (i : Int) = 1 := by simpa using h1
                omega
              rw [this, Bool.and_false]
            rw [this]
            exact ⟨rfl, H.keeps⟩
          · exact ⟨(), trivial, by omega, H⟩
      · clear H
        rintro ⟨⟩ u w3 ⟨hc, H⟩
        refine ⟨i + 1, by show ks.length - (i + 1) < ks.length - i; omega, ⟨up (by omega), trivial⟩, ⟨by show i + 1 ≤ ks.length; omega, fun i' hi' => ?_⟩, H⟩
        by_cases he : i' = i
        · subst he; exact hc
        · exact hall i' (by omega)
    · exact ⟨(), trivial, fun i' hi' => hall i' (by omega), H⟩
  clear H
  rintro ⟨⟩ u w2 ⟨hall, H⟩
  replace H : Hp _ _ _ _ _ := H
  have : orderB ks = true := by
    unfold orderB
    rw [decide_eq_true h8, Bool.true_and, List.all_eq_true]
    intro i hi
    simpa using hall i (List.mem_range.1 hi)
  rw [this]
  exact ⟨rfl, H.keeps⟩
end Go.Proofs.Ytjebpngdinbckaa
end

section
/- Decision diagrams: New. -/
namespace Go.Proofs.Ytjebpngdinbckaa
open Go.Dk
attribute [local irreducible] IntKind.wrap

/-- A diagram that is handed out. -/
def bdR (g ga r co : Nat) (B : Option Addr) (o : List Nat) (sv0 : Value) (room : Int) (A : Ar) : Res :=
  seps [own 3 1 (.slice B o.length co) o.length (intsN o), blk g 213 (bdC B o.length co ga), arR ga r sv0 room A]
theorem _root_.Go.Dk.Hp.bdOpen {w0 w : World} {F : Nat → Prop} {L M : List Res} {g ga r co : Nat} {B : Option Addr} {o : List Nat} {sv0 : Value} {room : Int} {A : Ar} (H : Hp w0 F w (bdR g ga r co B o sv0 room A :: L) M) :
    Hp w0 F w (arR ga r sv0 room A :: L) (bdM g ga co B o ++ M) := H.split.freeze.freeze
theorem intsN_nats {ks : List Int} (h : ∀ x ∈ ks, 0 ≤ x) : intsN (natsI ks) = intsI ks := by
  unfold intsN natsI intsI
  rw [List.map_map]
  refine List.map_congr_left fun x hx => ?_
  have := h x hx
  show Value.int .i64 ((x.toNat : Nat) : Int) = _
  rw [show ((x.toNat : Nat) : Int) = x by omega]
def metC (l : List Int) : Array Value := #[.bool (decide (0 ∈ l)), .bool (decide (1 ∈ l)), .bool (decide (2 ∈ l)), .bool (decide (3 ∈ l)), .bool (decide (4 ∈ l)), .bool (decide (5 ∈ l)), .bool (decide (6 ∈ l)), .bool (decide (7 ∈ l))]
theorem metC_get {l : List Int} {x : Int} (h0 : 0 ≤ x) (h1 : x < 8) : (metC l)[x.toNat]? = some (.bool (decide (x ∈ l))) := by
  obtain ⟨n, rfl⟩ : ∃ n : Nat, x = n := ⟨x.toNat, by omega⟩
  have hn : n < 8 := by omega
  rw [Int.toNat_natCast]
  rcases n with _ | _ | _ | _ | _ | _ | _ | _ | n
  all_goals first | rfl | omega
theorem metC_set {l : List Int} {x : Int} (h0 : 0 ≤ x) (h1 : x < 8) : (metC l).setIfInBounds x.toNat (.bool true) = metC (l ++ [x]) := by
  obtain ⟨n, rfl⟩ : ∃ n : Nat, x = n := ⟨x.toNat, by omega⟩
  have hn : n < 8 := by omega
  rw [Int.toNat_natCast]
  rcases n with _ | _ | _ | _ | _ | _ | _ | _ | n
  all_goals first | (simp [metC, Array.setIfInBounds]; done) | omega
theorem intsI_one (l : List Int) : ∀ v ∈ intsI l, v.oneCell' = true := fun v hv => by
  obtain ⟨x, _, rfl⟩ := List.mem_map.1 hv; rfl
theorem build213 {B : Option Addr} {n c ga : Nat} {w : World} {kk : Value → World → Prop} (h : kk (.agg (bdC B n c ga)) w) : buildK Try.prog 213 [(0, .slice B n c), (1, .pointer (some ⟨ga, 0, none⟩))] w kk := build_by (fun w => by kernel_rfl) h
theorem zero218 : zeroT Try.prog 218 = some (.agg #[.bool false, .bool false, .bool false, .bool false, .bool false, .bool false, .bool false, .bool false]) := by kernel_rfl
theorem ent113 : enters Try.prog 113 = true := by kernel_rfl
theorem c113 (ks : List Int) (B : Option Addr) (c : Nat) (room : Int) (w : World) (hl : ks.length ≤ 9223372036854775807) (hs : Sl w (.slice B ks.length c) 1 ks.length (intsI ks)) :
    Fun Try.prog 113 [.slice B ks.length c, .int .i64 room] w fun v w' =>
      ((¬ OrdI ks ∨ room < 0 ∨ 20000 < room) ∧ v = .tuple #[.pointer none, .int .i64 1] ∧ Same w w') ∨
      (OrdI ks ∧ 0 ≤ room ∧ room ≤ 20000 ∧ ∃ g ga r co B', v = .tuple #[.pointer (some ⟨g, 0, none⟩), .int .i64 0] ∧ NewR w w' (bdR g ga r co B' (natsI ks) (.slice none 0 0) room [])) := by
  refine fun_of_W (N := 50) Try.func113 ent113 rfl rfl rfl (by simp) ?_
  have H := Hp.start0 w
  refine cut_rule (γ := Unit) _ rfl (fun _ => []) (fun _ w' => Hp w (fun _ => False) w' [] []) ⟨(), trivial, H⟩ ?_
  clear H
  rintro ⟨⟩ u w0 H
  replace H : Hp _ _ _ _ _ := H
  refine cut_rule (γ := Unit) _ rfl (fun _ => []) (fun _ w' => ks.length ≤ 8 ∧ Hp w (fun _ => False) w' [] []) ?_ ?_
  · refine len_sl Try.underlying32 ?_
    refine cond_dec (fun h8 => ?_) (fun h8 => ?_)
    · exact .inl ⟨.inl fun h => by have := h.le; omega, rfl, H.keeps⟩
    · exact ⟨(), trivial, by omega, H⟩
  clear H
  rintro ⟨⟩ u w1 ⟨h8, H⟩
  replace H : Hp _ _ _ _ _ := H
  refine cut_rule (γ := Nat) _ rfl (fun g => [(6, .pointer (some ⟨g, 0, none⟩))]) (fun g w' => Hp w (fun _ => False) w' [blk g 218 (metC [])] []) ?_ ?_
  · refine H.alloc 218 (cs := metC []) zero218 rfl ?_
    clear H
    intro g w2 H
    exact ⟨g, ⟨rfl, trivial⟩, H⟩
  clear H
  rintro g u w2 H
  replace H : Hp _ _ _ _ _ := H
  refine cut_rule (γ := Unit) _ rfl (fun _ => []) (fun _ w' => OrdI ks ∧ Hp w (fun _ => False) w' [] []) ?_ ?_
  · refine len_sl Try.underlying32 ?_
    refine loop_rule (γ := Nat) _ rfl (fun i => [(16, .int .i64 (i : Int))]) (fun i w' => (i ≤ ks.length ∧ (ks.take i).Nodup ∧ ∀ x ∈ ks.take i, 0 ≤ x ∧ x < ks.length) ∧ Hp w (fun _ => False) w' [blk g 218 (metC (ks.take i))] []) (fun i => ks.length - i) 0 ⟨rfl, trivial⟩ ⟨⟨Nat.zero_le _, by simp, by simp⟩, H⟩ ?_
    clear H
    rintro i u w3 ⟨⟨hi, hnd, hrg⟩, H⟩
    replace H : Hp _ _ _ _ _ := H
    refine cond_dec (fun h7 => ?_) (fun h7 => ?_)
    · obtain ⟨x, hx⟩ : ∃ x, ks[i]? = some x := ⟨_, List.getElem?_eq_getElem (by omega)⟩
      obtain ⟨g2, o2, rfl⟩ := hs.A (by omega)
      have hgk : (intsI ks)[i]? = some (.int .i64 x) := by rw [intsI, List.getElem?_map, hx]; rfl
      have htk : ks.take (i + 1) = ks.take i ++ [x] := by rw [List.take_add_one, hx]; rfl
      have hxm := List.mem_of_getElem? hx
      have hno : (x < 0 ∨ ks.length ≤ x ∨ x ∈ ks.take i) → ¬ OrdI ks := fun h ho => by
        have h1 := ho.rng x hxm
        rcases h with h | h | h
        · omega
        · omega
        · have h2 := ho.nodup
          rw [← List.take_append_drop i ks] at h2
          have h3 := (List.nodup_append.1 h2).2.2 x h
          rw [List.drop_eq_getElem_cons (by omega)] at h3
          have : ks[i] = x := by have := List.getElem?_eq_getElem (l := ks) (i := i) (by omega); rw [hx] at this; injection this with this; exact this.symm
          exact h3 x (by rw [this]; exact .head _) rfl
      refine cut_rule (γ := Unit) _ rfl (fun _ => []) (fun _ w' => (0 ≤ x ∧ x < ks.length ∧ x ∉ ks.take i) ∧ Hp w (fun _ => False) w' [blk g 218 (metC (ks.take (i + 1)))] []) ?_ ?_
      · refine cut_rule (γ := Unit) _ rfl (fun _ => [(8, .int .i64 x)]) (fun _ w' => Hp w (fun _ => False) w' [blk g 218 (metC (ks.take i))] []) ?_ ?_
        · refine idxAddr_sl Try.underlying32 (s := 1) size3 i rfl (by omega) (o' := o2 + i) (by omega) ?_
          refine H.loadSl (i := i) hs agg3 _ rfl hgk ?_
          exact ⟨(), ⟨rfl, trivial⟩, H⟩
        clear H
        rintro ⟨⟩ u w4 H
        replace H : Hp _ _ _ _ _ := H
        refine cut_rule (γ := Unit) _ rfl (fun _ => []) (fun _ w' => (0 ≤ x ∧ x < ks.length ∧ x ∉ ks.take i) ∧ Hp w (fun _ => False) w' [blk g 218 (metC (ks.take i))] []) ?_ ?_
        · by_cases hx0 : x < 0
          · iterate 5 refine cond_yes (decide_eq_true (by assumption)) ?_
            iterate 5 refine cond_yes rfl ?_
            exact .inl ⟨.inl (hno (.inl hx0)), rfl, H.keeps⟩
          by_cases hx1 : (ks.length : Int) ≤ x
          · iterate 3 refine cond_no (decide_eq_false (by assumption)) ?_
            refine len_sl Try.underlying32 ?_
            iterate 2 refine cond_no (decide_eq_false (by assumption)) ?_
            iterate 4 refine cond_yes (decide_eq_true (by assumption)) ?_
            refine cond_yes rfl ?_
            exact .inl ⟨.inl (hno (.inr (.inl hx1))), rfl, H.keeps⟩
          have hg := metC_get (l := ks.take i) (x := x) (by omega) (by omega)
          iterate 3 refine cond_no (decide_eq_false (by assumption)) ?_
          refine len_sl Try.underlying32 ?_
          iterate 4 refine cond_no (decide_eq_false (by assumption)) ?_
          refine idxAddr_arr Try.underlying218 size4 x.toNat (by omega) (by omega) (o' := x.toNat) (by omega) ?_
          refine cond_no (decide_eq_false (by assumption)) ?_
          refine H.load 0 rfl agg4 hg ?_
          refine cond_no (decide_eq_false (by assumption)) ?_
          refine cond_dec (fun h19 => ?_) (fun h19 => ?_)
          · exact .inl ⟨.inl (hno (.inr (.inr h19))), rfl, H.keeps⟩
          · exact ⟨(), trivial, ⟨by omega, by omega, h19⟩, H⟩
        clear H
        rintro ⟨⟩ u w4 ⟨⟨hx0, hx1, hx2⟩, H⟩
        replace H : Hp _ _ _ _ _ := H
        refine idxAddr_arr Try.underlying218 size4 x.toNat (by omega) (by omega) (o' := x.toNat) (by omega) ?_
        refine H.store 0 rfl size4 (by show x.toNat < 8; omega) rfl ?_
        clear H
        intro w5 H
        rw [metC_set (by omega) (by omega), ← htk] at H
        exact ⟨(), trivial, ⟨hx0, hx1, hx2⟩, H⟩
      · clear H
        rintro ⟨⟩ u w4 ⟨⟨hx0, hx1, hx2⟩, H⟩
        refine ⟨i + 1, by show ks.length - (i + 1) < ks.length - i; omega, ⟨up (by omega), trivial⟩, ⟨by show i + 1 ≤ ks.length; omega, ?_, ?_⟩, H⟩
        · rw [htk]
          exact List.nodup_append.2 ⟨hnd, by simp, fun a ha b hb => by rw [List.mem_singleton] at hb; subst hb; exact fun e => hx2 (e ▸ ha)⟩
        · rw [htk]
          intro y hy
          rcases List.mem_append.1 hy with hy | hy
          · exact hrg y hy
          · rw [List.mem_singleton] at hy; subst hy; exact ⟨hx0, hx1⟩
    · rw [List.take_of_length_le (by omega)] at hnd hrg
      exact ⟨(), trivial, ⟨hnd, hrg, h8⟩, H.forget⟩
  clear H
  rintro ⟨⟩ u w3 ⟨hord, H⟩
  replace H : Hp _ _ _ _ _ := H
  by_cases hr : room < 0 ∨ 20000 < room
  · refine call_fn (c64_b room hr _) ?_
    rintro _ w4 ⟨rfl, hk⟩
    replace H := H.same hk
    clear hk
    refine cond_yes rfl ?_
    exact .inl ⟨.inr hr, rfl, H.keeps⟩
  · refine cut_rule (γ := Nat × Nat) _ rfl (fun (ga, r) => [(9, .pointer (some ⟨ga, 0, none⟩)), (10, .int .i64 0)]) (fun (ga, r) w' => Hp w (fun _ => False) w' [arR ga r (.slice none 0 0) room []] []) ?_ ?_
    · refine call_fn (c64_a room (by omega) (by omega) _) ?_
      rintro _ w4 ⟨ga, r, rfl, hn⟩
      exact ⟨(ga, r), ⟨rfl, rfl, trivial⟩, H.addNew hn⟩
    clear H
    rintro ⟨ga, r⟩ u w4 H
    replace H : Hp _ _ _ _ _ := H
    refine cut_rule (γ := Unit) _ rfl (fun _ => []) (fun _ w' => Hp w (fun _ => False) w' [arR ga r (.slice none 0 0) room []] []) ?_ ?_
    · refine cond_no rfl ?_
      exact ⟨(), trivial, H⟩
    clear H
    rintro ⟨⟩ u w5 H
    replace H : Hp _ _ _ _ _ := H
    refine Hp.buildNil H T32 ?_
    clear H
    intro g1 w6 H
    refine Hp.appendCopy H 0 T32 rfl (hs.same H.keeps) (intsI_one ks) (by omega) (by omega) ?_
    clear H
    intro A2 d2 w7 H
    refine build213 ?_
    refine H.box 213 _ rfl ?_
    clear H
    intro g10 w10 H
    refine .inr ⟨hord, by omega, by omega, g10, ga, r, d2, A2, rfl, ?_⟩
    have e1 : (natsI ks).length = ks.length := natsI_length ks
    have e2 := intsN_nats (ks := ks) fun x hx => (hord.rng x hx).1
    have H2 : Hp w (fun _ => False) w10 ([own 3 1 (.slice A2 (natsI ks).length d2) (natsI ks).length (intsN (natsI ks)), blk g10 213 (bdC A2 (natsI ks).length d2 ga), arR ga r (.slice none 0 0) room []] ++ []) [] := by
      rw [e1, e2]
      exact H.front 1 rfl
    exact H2.join.out
end Go.Proofs.Ytjebpngdinbckaa
end

section
/- Graphs of sets as lists of nodes: the graph of a thing in order from the root is one. Plain Lean. -/
namespace Go.Dk

def arN (N : List Nd) : Ar := N.map some
theorem slot_arN (N : List Nd) (i : Nat) : slot (arN N) i = N[i]? := by
  unfold slot arN
  rw [List.getD_eq_getElem?_getD, List.getElem?_map]
  cases N[i]? <;> rfl
theorem arN_length (N : List Nd) : (arN N).length = N.length := by simp [arN]
theorem arN_live (N : List Nd) : liveA (arN N) = N.length := by
  unfold liveA arN
  rw [List.countP_map]
  have : ((·.isSome) ∘ (some : Nd → Option Nd)) = fun _ => true := rfl
  rw [this, List.countP_true]
theorem arN_free (N : List Nd) : freeA (arN N) = N.length := by
  have h := freeA_le (arN N)
  rw [arN_length] at h
  rcases Nat.eq_or_lt_of_le h with h1 | h1
  · exact h1
  · have := slot_free (arN N)
    rw [slot_arN, List.getElem?_eq_getElem h1] at this
    cases this
theorem arN_put (N : List Nd) (d : Nd) : putA (arN N) d = arN (N ++ [d]) := by
  unfold putA
  rw [arN_free, arN_length, if_pos rfl]
  simp [arN]
def nodeN (N : List Nd) (k : Nat) (lo hi : Int) : List Nd × Int :=
  if lo = hi then (N, lo) else
    match findA (arN N) ⟨k, lo.toNat, hi.toNat⟩ with
    | some i => (N, ((i + 2 : Nat) : Int))
    | none => (N ++ [⟨k, lo.toNat, hi.toNat⟩], ((N.length + 2 : Nat) : Int))
theorem nodeN_len (N : List Nd) (k : Nat) (lo hi : Int) : N.length ≤ (nodeN N k lo hi).1.length := by
  unfold nodeN
  split
  · exact Nat.le_refl _
  · split
    · exact Nat.le_refl _
    · simp
theorem nodeN_eq {room : Int} {N : List Nd} (hr : (N.length : Int) < room) {k : Nat} {lo hi : Int} (h1 : (k : Int) < lvlA (arN N) lo) (h2 : (k : Int) < lvlA (arN N) hi) :
    nodeA room (arN N) k lo hi = (arN (nodeN N k lo hi).1, (nodeN N k lo hi).2, 0) := by
  unfold nodeA nodeN
  split
  · rfl
  · unfold mkA
    rw [if_neg (by omega), show ((k : Int)).toNat = k by omega]
    cases findA (arN N) ⟨k, lo.toNat, hi.toNat⟩ with
    | some i => rfl
    | none =>
      simp only
      rw [arN_live, if_neg (by omega), arN_put, arN_free]
theorem nodeN_made {n : Nat} {room : Int} {N : List Nd} (hr : (N.length : Int) < room) (h : BInv n (arN N)) {k : Nat} (hk : k < n) (hn : n ≤ 23) {lo hi : Int} {F : Fn} (hF : ∀ j, j < k → Indep F j)
    (hlo : Rep (arN N) lo fun b => F (upA b k false)) (hhi : Rep (arN N) hi fun b => F (upA b k true)) : Made n room (arN N) (arN (nodeN N k lo hi).1) F (nodeN N k lo hi).2 0 := by
  have hm := made_node (room := room) h hk hn hF hlo hhi
  have hind : ∀ v, ∀ j, j ≤ k → Indep (fun b => F (upA b k v)) j := fun v j hj a b => by
    show F (upA (upA a j b) k v) = F (upA a k v)
    rcases Nat.eq_or_lt_of_le hj with he | hlt
    · rw [he, upA_up]
    · rw [upA_comm a (by omega)]
      exact hF j hlt _ _
  rwa [nodeN_eq hr (rep_level h hlo (by omega) (hind false)) (rep_level h hhi (by omega) (hind true))] at hm
theorem nodeN_both {n : Nat} {room : Int} {A : Ar} {A1 N2 : List Nd} (hr : (N2.length : Int) < room) (hA : BInv n A) {k : Nat} (hk : k < n) (hn : n ≤ 23) {F : Fn} (hF : ∀ j, j < k → Indep F j) {lo hi : Int}
    (h1 : Made n room A (arN A1) (fun b => F (upA b k false)) lo 0) (h2 : Made n room (arN A1) (arN N2) (fun b => F (upA b k true)) hi 0) : Made n room A (arN (nodeN N2 k lo hi).1) F (nodeN N2 k lo hi).2 0 := by
  have hm := made_both hA hk hn hF h1 h2
  have hind : ∀ v, ∀ j, j ≤ k → Indep (fun b => F (upA b k v)) j := fun v j hj a b => by
    show F (upA (upA a j b) k v) = F (upA a k v)
    rcases Nat.eq_or_lt_of_le hj with he | hlt
    · rw [he, upA_up]
    · rw [upA_comm a (by omega)]
      exact hF j hlt _ _
  have hlo := h1.ok.ext h1.inv.inv h2.inv.inv h2.ext
  rwa [nodeN_eq hr (rep_level h2.inv hlo (by omega) (hind false)) (rep_level h2.inv h2.ok (by omega) (hind true))] at hm

/-- To build what says F behind some nodes, in order from the root: low, high, then itself. -/
inductive Bld : List Nd → Fn → List Nd → Int → Prop
  | found {O : List Nd} {F : Fn} {id : Int} : Rep (arN O) id F → Bld O F O id
  | node {O O1 O2 : List Nd} {F : Fn} {k : Nat} {lo hi : Int} : (∀ id, ¬ Rep (arN O) id F) → (∀ j, j < k → Indep F j) → ¬ Indep F k →
      Bld O (fun b => F (upA b k false)) O1 lo → Bld O1 (fun b => F (upA b k true)) O2 hi → Bld O F (nodeN O2 k lo hi).1 (nodeN O2 k lo hi).2
theorem bld_len {O O' : List Nd} {F : Fn} {id : Int} (h : Bld O F O' id) : O.length ≤ O'.length := by
  induction h with
  | found _ => exact Nat.le_refl _
  | node _ _ _ _ _ ih1 ih2 => exact Nat.le_trans (Nat.le_trans ih1 ih2) (nodeN_len _ _ _ _)
theorem Low.up {n : Nat} {F : Fn} (h : Low n F) (k : Nat) (v : Bool) : Low n fun b => F (upA b k v) := fun a b hab => h _ _ fun j hj => by
  unfold upA; split
  · rfl
  · exact hab j hj
theorem bld_made {n : Nat} (hn : n ≤ 23) {room : Int} {O O' : List Nd} {F : Fn} {id : Int} (h : Bld O F O' id) : BInv n (arN O) → Low n F → (O'.length : Int) < room → Made n room (arN O) (arN O') F id 0 := by
  induction h with
  | found hr => intro hO _ _; exact Made.refl hO hr
  | @node O O1 O2 F k lo hi h1 h2 h3 h4 h5 ih1 ih2 =>
    intro hO hF hroom
    have l2 := bld_len h5
    have l3 := nodeN_len O2 k lo hi
    have hk : k < n := Nat.lt_of_not_le fun hle => h3 (hF.indep hle)
    have m1 := ih1 hO (hF.up k false) (by omega)
    have m2 := ih2 m1.inv (hF.up k true) (by omega)
    exact nodeN_both (by omega) hO hk hn h2 m1 m2
/-- There is one way. -/
theorem bld_det {n : Nat} (hn : n ≤ 23) {O O1 : List Nd} {F : Fn} {id1 : Int} (h : Bld O F O1 id1) : BInv n (arN O) → Low n F → ∀ {O2 : List Nd} {id2 : Int}, Bld O F O2 id2 → O1 = O2 ∧ id1 = id2 := by
  induction h with
  | found hr =>
    intro hO _ O2 id2 h2
    cases h2 with
    | found hr2 => exact ⟨rfl, rep_canon hO hr hr2⟩
    | node hno _ _ _ _ => exact absurd hr (hno _)
  | @node O Oa Ob F k lo hi h1 h2 h3 h4 h5 ih1 ih2 =>
    intro hO hF O2 id2 hh
    cases hh with
    | found hr2 => exact absurd hr2 (h1 _)
    | @node _ Oa' Ob' _ k' lo' hi' g1 g2 g3 g4 g5 =>
      have hkk : k = k' := by
        rcases Nat.lt_trichotomy k k' with h | h | h
        · exact absurd (g2 k h) h3
        · exact h
        · exact absurd (h2 k' h) g3
      subst hkk
      obtain ⟨rfl, rfl⟩ := ih1 hO (hF.up k false) g4
      have m1 := bld_made hn (room := (Oa.length : Int) + 1) h4 hO (hF.up k false) (by omega)
      obtain ⟨rfl, rfl⟩ := ih2 m1.inv (hF.up k true) g5
      exact ⟨rfl, rfl⟩
/-- The graph of F. -/
def IsGraph (F : Fn) (N : List Nd) (root : Int) : Prop := Bld [] F N root
theorem graph_det {n : Nat} (hn : n ≤ 23) {F : Fn} (hF : Low n F) {N N' : List Nd} {r r' : Int} (h : IsGraph F N r) (h' : IsGraph F N' r') : N = N' ∧ r = r' := bld_det hn h (BInv.nil n) hF h'
theorem graph_made {n : Nat} (hn : n ≤ 23) {F : Fn} (hF : Low n F) {N : List Nd} {r : Int} (h : IsGraph F N r) : Made n ((N.length : Int) + 1) [] (arN N) F r 0 := bld_made hn h (BInv.nil n) hF (by omega)
/-- It has as many nodes as the set needs. -/
theorem graph_size {o : List Nat} (ho : OrdO o) {s : Nat} {N : List Nd} {r : Int} (h : IsGraph (FnS o s) N r) : N.length = sizeS o s := by
  have hm := graph_made (n := o.length) (by have := ho.le; omega) (FnS_low ho s) h
  have hrep := hm.ok
  have e1 := hm.inv
  refine Nat.le_antisymm ?_ ?_
  · have := needed_count ho e1 (s := s) (P := List.range N.length) List.nodup_range fun i hi => by
      have hi' := List.mem_range.1 hi
      have hs : slot (arN N) i = some N[i] := by rw [slot_arN]; exact List.getElem?_eq_getElem hi'
      exact ⟨_, hs, hm.need i _ hs (by simp [slot])⟩
    simpa using this
  · classical
    have := reach_count ho e1 hrep (P := (List.range N.length).filter fun x => decide (Rch (arN N) r x)) (List.nodup_range.sublist List.filter_sublist) fun x => by
      rw [List.mem_filter, List.mem_range, decide_eq_true_eq]
      constructor
      · exact fun h => h.2
      · intro hx
        obtain ⟨d, hd⟩ := hx.slot
        have := slot_lt hd
        rw [arN_length] at this
        exact ⟨this, hx⟩
    rw [← this]
    have := List.length_filter_le (fun x => decide (Rch (arN N) r x)) (List.range N.length)
    simpa using this

/-! ### To read a graph in order from the root -/
abbrev RdS := List Nd × List (Int × Int)
def readN (N : List Nd) : Nat → Int → RdS → RdS × Int
  | 0, id, s => (s, id)
  | f + 1, id, s =>
    match aget s.2 id with
    | some x => (s, x)
    | none =>
      match ndA (arN N) id with
      | none => (s, id)
      | some d =>
        let r1 := readN N f d.lo s
        let r2 := readN N f d.hi r1.1
        let r := nodeN r2.1.1 d.l r1.2 r2.2
        ((r.1, aset r2.1.2 id r.2), r.2)
structure RdInv (n : Nat) (N : List Nd) (s : RdS) : Prop where
  inv : BInv n (arN s.1)
  rep : ∀ id x, aget s.2 id = some x → 0 ≤ lvlA (arN N) id ∧ Rep (arN s.1) x (sem (arN N) id)
  from_ : ∀ i d, slot (arN s.1) i = some d → ∃ id, aget s.2 id = some ((i : Int) + 2)
  zero : aget s.2 0 = some 0
  one : aget s.2 1 = some 1
theorem rd_start (n : Nat) (N : List Nd) : RdInv n N ([], [(0, 0), (1, 1)]) := by
  refine ⟨BInv.nil n, fun id x h => ?_, fun i d h => by simp [slot, arN] at h, rfl, rfl⟩
  by_cases h0 : id = 0
  · subst h0
    have : x = 0 := by simpa [aget] using h.symm
    subst this
    exact ⟨by rw [lvl_end (.inl rfl)]; decide, rep_zero.congr fun a => (by rw [sem_none (nd_end (.inl rfl))]; rfl)⟩
  · by_cases h1 : id = 1
    · subst h1
      have : x = 1 := by simpa [aget] using h.symm
      subst this
      exact ⟨by rw [lvl_end (.inr rfl)]; decide, rep_one.congr fun a => (by rw [sem_none (nd_end (.inr rfl))]; rfl)⟩
    · have e : aget ([(0, 0), (1, 1)] : List (Int × Int)) id = none := aget_none.2 fun p hp => by
        simp only [List.mem_cons, List.not_mem_nil, or_false] at hp
        rcases hp with rfl | rfl
        · exact fun e => h0 e.symm
        · exact fun e => h1 e.symm
      have h' : aget ([(0, 0), (1, 1)] : List (Int × Int)) id = some x := h
      rw [e] at h'; cases h'
theorem rd_none {n : Nat} {N : List Nd} (hN : BInv n (arN N)) {s : RdS} (h : RdInv n N s) {id : Int} (h0 : 0 ≤ lvlA (arN N) id) (hg : aget s.2 id = none) (y : Int) : ¬ Rep (arN s.1) y (sem (arN N) id) := fun hr => by
  have key : ∀ id', aget s.2 id' = some y → False := fun id' h1 => by
    obtain ⟨h2, h3⟩ := h.rep id' y h1
    have : id' = id := canon hN _ _ h2 h0 fun a => by rw [← h3.says, hr.says]
    rw [this, hg] at h1; cases h1
  rcases lvlA_node hr.there with rfl | rfl | ⟨i, d, rfl, hs, _⟩
  · exact key 0 h.zero
  · exact key 1 h.one
  · obtain ⟨id', h1⟩ := h.from_ i d hs
    exact key id' h1
theorem read_bld {n : Nat} (hn : n ≤ 23) {N : List Nd} (hN : BInv n (arN N)) : ∀ (f : Nat) (id : Int) (s : RdS), 24 - lvlA (arN N) id < f → 0 ≤ lvlA (arN N) id → RdInv n N s →
    RdInv n N (readN N f id s).1 ∧ Bld s.1 (sem (arN N) id) (readN N f id s).1.1 (readN N f id s).2
  | 0, id, s, hf, _, _ => by have := lvlA_le hN.inv id; omega
  | f + 1, id, s, hf, h0, hs => by
    unfold readN
    cases hg : aget s.2 id with
    | some x => exact ⟨hs, .found (hs.rep id x hg).2⟩
    | none =>
      have hnd := rd_none hN hs h0 hg
      cases hd : ndA (arN N) id with
      | none =>
        rcases nd_none hd h0 with rfl | rfl
        · rw [hs.zero] at hg; cases hg
        · rw [hs.one] at hg; cases hg
      | some d =>
        have hl := nd_lvl hd
        have hlev := lev_of hN.inv hd
        obtain ⟨q1, b1⟩ := read_bld hn hN f d.lo s (by omega) (by omega) hs
        obtain ⟨q2, b2⟩ := read_bld hn hN f d.hi (readN N f d.lo s).1 (by omega) (by omega) q1
        simp only
        generalize readN N f d.lo s = r1 at q1 b1 q2 b2
        generalize readN N f d.hi r1.1 = r2 at q2 b2
        obtain ⟨⟨O1, D1⟩, lo⟩ := r1
        obtain ⟨⟨O2, D2⟩, hi⟩ := r2
        simp only at q1 b1 q2 b2 ⊢
        have e1 : sem (arN N) d.lo = fun b => sem (arN N) id (upA b d.l false) := funext fun b => sem_lo hN.inv hd b
        have e2 : sem (arN N) d.hi = fun b => sem (arN N) id (upA b d.l true) := funext fun b => sem_hi hN.inv hd b
        rw [e1] at b1
        rw [e2] at b2
        have hF : ∀ j, j < d.l → Indep (sem (arN N) id) j := fun j hj a b => sem_up hN.inv (by omega) a b
        have hlow := sem_low hN id
        have hk : d.l < n := by obtain ⟨i, _, hsl⟩ := nd_place hd; exact hN.lt i d hsl
        have m1 := bld_made hn (room := (O2.length : Int) + 1) b1 hs.inv (hlow.up d.l false) (by have := bld_len b2; omega)
        have m2 := bld_made hn (room := (O2.length : Int) + 1) b2 q1.inv (hlow.up d.l true) (by omega)
        have m3 := nodeN_both (room := (O2.length : Int) + 1) (by omega) hs.inv hk hn hF m1 m2
        have hx2 : Ext (arN O2) (arN (nodeN O2 d.l lo hi).1) := by
          unfold nodeN
          split
          · exact Ext.refl _
          · split
            · exact Ext.refl _
            · simp only; rw [← arN_put]; exact ext_put
        refine ⟨⟨m3.inv, fun id' x hx => ?_, fun i d' hsl => ?_, ?_, ?_⟩, .node hnd hF (dep_node hN hd) b1 b2⟩
        · rw [aget_aset] at hx
          split at hx
          · rename_i he
            injection hx with hx
            subst hx; subst he
            exact ⟨h0, m3.ok⟩
          · obtain ⟨g1, g2⟩ := q2.rep id' x hx
            exact ⟨g1, g2.ext q2.inv.inv m3.inv.inv hx2⟩
        · have hold : ∀ i d', slot (arN O2) i = some d' → ∃ id', aget (aset D2 id (nodeN O2 d.l lo hi).2) id' = some ((i : Int) + 2) := fun i0 d0' hs2 => by
            obtain ⟨id', hid⟩ := q2.from_ i0 d0' hs2
            refine ⟨id', ?_⟩
            rw [aget_aset, if_neg]
            · exact hid
            · rintro rfl
              obtain ⟨_, g2⟩ := q2.rep id' _ hid
              -- what is read is not there before its parts are read
              have hlt : d.l < n := hk
              cases h1 : slot (arN O1) i0 with
              | none =>
                refine needed_level q2.inv hs2 (m2.need i0 d0' hs2 h1) ?_
                have hl' : d0'.l = d.l ∨ d0'.l < d.l ∨ d.l < d0'.l := by omega
                have hdd : ndA (arN O2) ((i0 : Int) + 2) = some d0' := by rw [nd_slot]; exact hs2
                have hdep := dep_node q2.inv hdd
                have hsem : sem (arN O2) ((i0 : Int) + 2) = sem (arN N) id' := funext g2.says
                rw [hsem] at hdep
                rcases hl' with h | h | h
                · intro a b
                  show sem (arN N) id' (upA (upA a d0'.l b) d.l true) = sem (arN N) id' (upA a d.l true)
                  rw [h, upA_up]
                · exact absurd (hF d0'.l h) hdep
                · exact absurd (rep_indep q2.inv.inv (rep_self (A := arN O2) (id := (i0 : Int) + 2) (by rw [lvlA_slot hs2]; omega)) (k := d.l) (by rw [lvlA_slot hs2]; omega)) (by rw [hsem]; exact dep_node hN hd)
              | some d1 =>
                have hd1 : d1 = d0' := by have := m2.ext i0 d1 h1; rw [hs2] at this; injection this with this; exact this.symm
                subst hd1
                cases h00 : slot (arN s.1) i0 with
                | none =>
                  refine needed_level q1.inv h1 (m1.need i0 d1 h1 h00) ?_
                  have hl' : d1.l = d.l ∨ d1.l < d.l ∨ d.l < d1.l := by omega
                  have hdd : ndA (arN O2) ((i0 : Int) + 2) = some d1 := by rw [nd_slot]; exact hs2
                  have hdep := dep_node q2.inv hdd
                  have hsem : sem (arN O2) ((i0 : Int) + 2) = sem (arN N) id' := funext g2.says
                  rw [hsem] at hdep
                  rcases hl' with h | h | h
                  · intro a b
                    show sem (arN N) id' (upA (upA a d1.l b) d.l false) = sem (arN N) id' (upA a d.l false)
                    rw [h, upA_up]
                  · exact absurd (hF d1.l h) hdep
                  · exact absurd (rep_indep q2.inv.inv (rep_self (A := arN O2) (id := (i0 : Int) + 2) (by rw [lvlA_slot hs2]; omega)) (k := d.l) (by rw [lvlA_slot hs2]; omega)) (by rw [hsem]; exact dep_node hN hd)
                | some d0 =>
                  refine hnd ((i0 : Int) + 2) ⟨by rw [lvlA_slot h00]; omega, fun a => ?_⟩
                  rw [← g2.says, (m1.ext.trans m2.ext).sem hs.inv.inv q2.inv.inv a _ (by rw [lvlA_slot h00]; omega)]
          rw [slot_arN] at hsl
          unfold nodeN at hsl ⊢
          split at hsl
          · rename_i he
            simp only [he, if_true] at hold ⊢
            unfold nodeN at hold
            simp only [if_true] at hold
            exact hold i d' (by rw [slot_arN]; exact hsl)
          · rename_i hne
            unfold nodeN at hold
            rw [if_neg hne] at hold ⊢
            cases hf : findA (arN O2) ⟨d.l, lo.toNat, hi.toNat⟩ with
            | some j =>
              rw [hf] at hsl hold
              simp only at hsl hold ⊢
              exact hold i d' (by rw [slot_arN]; exact hsl)
            | none =>
              rw [hf] at hsl hold
              simp only at hsl hold ⊢
              by_cases hi : i < O2.length
              · rw [List.getElem?_append_left hi] at hsl
                exact hold i d' (by rw [slot_arN]; exact hsl)
              · have hil := (List.getElem?_eq_some_iff.1 hsl).1
                have : i = O2.length := by simp at hil; omega
                subst this
                exact ⟨id, by rw [aget_aset, if_pos rfl]; rfl⟩
        · rw [aget_aset, if_neg]
          · exact q2.zero
          · rintro rfl
            rw [hs.zero] at hg; cases hg
        · rw [aget_aset, if_neg]
          · exact q2.one
          · rintro rfl
            rw [hs.one] at hg; cases hg
/-- Read from the root: the graph of what it says. -/
theorem read_graph {n : Nat} (hn : n ≤ 23) {N : List Nd} (hN : BInv n (arN N)) {root : Int} (h0 : 0 ≤ lvlA (arN N) root) :
    IsGraph (sem (arN N) root) (readN N 26 root ([], [(0, 0), (1, 1)])).1.1 (readN N 26 root ([], [(0, 0), (1, 1)])).2 :=
  (read_bld hn hN 26 root _ (by omega) h0 (rd_start n N)).2
end Go.Dk
end

section
/- Orders: the reference tells them. -/
namespace Go.Proofs.Ytjebpngdinbckaa
open Go.Dk
theorem ordB_iff (ks : List Int) : orderB ks = true ↔ OrdI ks := by
  unfold orderB
  rw [Bool.and_eq_true, decide_eq_true_eq, List.all_eq_true]
  constructor
  · rintro ⟨h1, h2⟩
    exact (ordI_count h1).2 fun i hi => by simpa using h2 i (List.mem_range.2 hi)
  · intro h
    exact ⟨h.le, fun i hi => by simpa using (ordI_count h.le).1 h i (List.mem_range.1 hi)⟩
end Go.Proofs.Ytjebpngdinbckaa
end

section
/- Decision diagrams: small laws that more than one chapter wants. -/
namespace Go.Proofs.Ytjebpngdinbckaa
open Go.Dk
attribute [local irreducible] IntKind.wrap
theorem intsN_get {o : List Nat} {i : Nat} (h : i < o.length) : (intsN o)[i]? = some (.int .i64 ((o.getD i 0 : Nat) : Int)) := by
  unfold intsN
  rw [List.getElem?_map, List.getD_eq_getElem?_getD, List.getElem?_eq_getElem h]; rfl
theorem metTo_len (o : List Nat) (s k : Nat) : ∀ m, (metTo o s k m).length ≤ m
  | 0 => Nat.le_refl _
  | m + 1 => by
    have := metTo_len o s k m
    unfold metTo
    split
    · rw [List.length_append]; show _ + 1 ≤ _; omega
    · omega
theorem sizeTo_le (o : List Nat) (s : Nat) : ∀ k, sizeTo o s k ≤ 2 ^ k
  | 0 => by simp [sizeTo]
  | k + 1 => by
    have := sizeTo_le o s k
    have := metTo_len o s k (2 ^ k)
    rw [sizeTo, Nat.pow_succ]
    unfold metS
    omega
theorem ok_start {room : Int} (h0 : 0 ≤ room) (h1 : room ≤ 20000) : ArOk room [] := ok_nil h0 h1
/-- A diagram that is one's own: read open. -/
theorem _root_.Go.Dk.Hp.bdAt' {w0 w : World} {F : Nat → Prop} {L M : List Res} {g ga r co : Nat} {B : Option Addr} {o : List Nat} {sv0 : Value} {room : Int} {A : Ar} (H : Hp w0 F w (arR ga r sv0 room A :: L) (bdM g ga co B o ++ M)) : BdAt w g ga r co B o sv0 room A :=
  H.bdAt 0 rfl fun s hs => List.mem_append_left _ hs
theorem iteF_low {n : Nat} {A : Ar} (h : BInv n A) (f p q : Int) : Low n (iteF A f p q) := fun a b hab => by
  unfold iteF
  rw [sem_low h f a b hab, sem_low h p a b hab, sem_low h q a b hab]
theorem made_small {n : Nat} {room : Int} {A A' : Ar} {F : Dk.Fn} {id e : Int} (h : Made n room A A' F id e) (hF : Low n F) (hn : n ≤ 8) {q : Nat} (hq : liveA A ≤ q) (hr : (q : Int) + 256 ≤ room) : e = 0 ∧ Rep A' id F ∧ liveA A' ≤ q + 255 := by
  have hD := low_hangs hF
  have h1 := made_few h hD
  have hp := pow_le_256 hn
  have hc : (2 : Int) ^ n = ((2 ^ n : Nat) : Int) := by simp
  rw [List.length_range] at h1
  obtain ⟨he, hrep⟩ := made_ok h hD (by rw [List.length_range, hc]; omega)
  exact ⟨he, hrep, by omega⟩
theorem _root_.Go.Dk.Hp.takeN {w0 w : World} {F : Nat → Prop} {L M : List Res} (H : Hp w0 F w L M) (n : Nat) : Hp w0 F w (L.take n) M :=
  ⟨H.keeps, fun s hs => H.ok s (List.mem_of_mem_take hs), fun s hs => H.lt s (List.mem_of_mem_take hs), fun s hs => H.new s (List.mem_of_mem_take hs), H.dis.sublist (List.take_sublist _ _), H.rok, H.rlt, fun q hq s hs => H.rdis q hq s (List.mem_of_mem_take hs)⟩
theorem reach_size {o : List Nat} (ho : OrdO o) {A : Ar} (h : BInv o.length A) {s : Nat} {id : Int} (hr : Rep A id (FnS o s)) : (reachL A id).length = sizeS o s := by
  unfold reachL reachTo
  rw [List.length_map]
  refine reach_count ho h hr (List.nodup_range.sublist List.filter_sublist) fun x => ?_
  rw [List.mem_filter, List.mem_range, reach_spec h.inv]
  constructor
  · exact fun h => h.2
  · intro hx
    obtain ⟨d, hd⟩ := hx.slot
    exact ⟨slot_lt hd, hx⟩
theorem less_all {s n : Nat} (hs : s < 2 ^ 256) (h : lessN s (allN n) = 0) : ∀ p, s.testBit p = true → p < 2 ^ n := fun p hp => by
  have h1 := (lessN_zero (b := allN n) hs).1 (by rw [h]; rfl) p
  have hp8 : p < 256 := by
    rcases Nat.lt_or_ge p 256 with h | h
    · exact h
    · rw [testBit_hi hs h] at hp; cases hp
  have h2 := h1 hp8
  unfold allN at h2
  rw [testBit_setOf, decide_eq_true hp8, Bool.true_and] at h2
  refine Classical.byContradiction fun hn => h2 ⟨hp, decide_eq_false hn⟩
theorem set_of {o : List Nat} (ho : OrdO o) {A : Ar} {f : Int} {s : Nat} (hs : s < 2 ^ 256) (hr : Rep A f (FnS o s)) (h : lessN s (allN o.length) = 0) : setD o A f = s :=
  setD_rep ho hr hs (less_all hs h) fun _ hp => FnS_asg ho s hp
/-- The order as it is read. -/
theorem ord_sl {ks : List Int} {B : Option Addr} {c : Nat} {w : World} (hord : OrdI ks) (hs : Sl w (.slice B ks.length c) 1 ks.length (intsI ks)) : Sl w (.slice B (natsI ks).length c) 1 (natsI ks).length (intsN (natsI ks)) := by
  rw [natsI_length, intsN_nats fun x hx => (hord.rng x hx).1]
  exact hs
/-- What Of answers where there is room enough. -/
def OfR (o : List Nat) (A : Ar) (s : Nat) (f e : Int) : Prop := (lessN s (allN o.length) ≠ 0 ∧ f = 0 ∧ e = 1) ∨ (lessN s (allN o.length) = 0 ∧ e = 0 ∧ Rep A f (FnS o s))
theorem OfR.ext {o : List Nat} {A A' : Ar} {s : Nat} {f e : Int} (hA : ArInv A) (hA' : ArInv A') (hx : Ext A A') (h : OfR o A s f e) : OfR o A' s f e := by
  rcases h with h | ⟨h1, h2, h3⟩
  · exact .inl h
  · exact .inr ⟨h1, h2, h3.ext hA hA' hx⟩
theorem ofR {o : List Nat} (ho : OrdO o) {A A' : Ar} {s : Nat} {f e : Int} {q : Nat} (hq : liveA A ≤ q) (hr : q + 256 ≤ 20000) (hA : BInv o.length A)
    (h : (lessN s (allN o.length) ≠ 0 ∧ A' = A ∧ f = 0 ∧ e = 1) ∨ (lessN s (allN o.length) = 0 ∧ Made o.length 20000 A A' (FnS o s) f e)) : OfR o A' s f e ∧ liveA A' ≤ q + 255 ∧ Ext A A' ∧ BInv o.length A' := by
  rcases h with ⟨h1, rfl, h2, h3⟩ | ⟨h1, hm⟩
  · exact ⟨.inl ⟨h1, h2, h3⟩, by omega, Ext.refl _, hA⟩
  · obtain ⟨he, hrep, hl⟩ := made_small hm (FnS_low ho s) ho.le hq (by omega)
    exact ⟨.inr ⟨h1, he, hrep⟩, hl, hm.ext, hm.inv⟩
end Go.Proofs.Ytjebpngdinbckaa
end

section
/- Decision diagrams: maps whose keys are arrays of three numbers. -/
namespace Go.Proofs.Ytjebpngdinbckaa
open Go.Dk
attribute [local irreducible] IntKind.wrap

theorem agg220 : aggT Try.prog 220 = some true := by kernel_rfl
theorem size220 : sizeT Try.prog 220 = some 3 := by kernel_rfl
theorem zero220 : zeroT Try.prog 220 = some (k3 0 0 0) := by kernel_rfl
def k3c (a b c : Int) : Array Value := #[.int .i64 a, .int .i64 b, .int .i64 c]
theorem run_eq220 (a b c a' b' c' : Int) (w : World) : (Op.equal 220 (k3 a b c) (k3 a' b' c')).run Try.prog w = .ok (a == a' && (b == b' && c == c')) w := by
  have hr : ∀ d', (Op.equalIn (d' + 2) 220 (k3 a b c) (k3 a' b' c')).run Try.prog w = .ok (a == a' && (b == b' && c == c')) w := by
    intro d'
    unfold k3
    rw [Op.equalIn]
    have i0 := run_eqInt Try.underlying3 d' a a'
    have i1 := run_eqInt Try.underlying3 d' b b'
    have i2 := run_eqInt Try.underlying3 d' c c'
    have p0 : ∀ (x y z : Int) w, (Go.part 3 #[.int .i64 x, .int .i64 y, .int .i64 z] 0).run Try.prog w = .ok (.int .i64 x) w := fun x y z w => run_part agg3 rfl w
    have p1 : ∀ (x y z : Int) w, (Go.part 3 #[.int .i64 x, .int .i64 y, .int .i64 z] 1).run Try.prog w = .ok (.int .i64 y) w := fun x y z w => run_part agg3 rfl w
    have p2 : ∀ (x y z : Int) w, (Go.part 3 #[.int .i64 x, .int .i64 y, .int .i64 z] 2).run Try.prog w = .ok (.int .i64 z) w := fun x y z w => run_part agg3 rfl w
    generalize (a == a') = b0 at *
    generalize (b == b') = b1 at *
    generalize (c == c') = b2 at *
    simp only [Sem.run_bind, run_underlying Try.underlying220, Result.andThen_ok, Go.Dk.run_sizeOf size3]
    cases b0 <;> cases b1 <;> cases b2 <;> simp [Std.Legacy.Range.forIn_eq_forIn_range', List.range', p0, p1, p2, i0, i1, i2, Std.Legacy.Range.size]
  exact hr 9998
theorem check220 (a b c : Int) (em : Bool) (w : World) : (Instr.checkKey em 10000 220 (k3 a b c)).run Try.prog w = .ok () w := by kernel_rfl
theorem asking220 (w : World) (a b c : Int) : ∀ (es : List MapEntry) (i : Nat), (∀ e ∈ es, isK3 e.key) →
    ((Instr.findAsking 220 (k3 a b c) es i).run Try.prog w = .ok none w ∧ ∀ e ∈ es, e.key ≠ k3 a b c) ∨ ∃ j e, (Instr.findAsking 220 (k3 a b c) es i).run Try.prog w = .ok (some (i + j, e.val)) w ∧ es[j]? = some e ∧ e.key = k3 a b c
  | [], i, _ => .inl ⟨by simp [Instr.findAsking], by simp⟩
  | e :: es, i, h => by
    obtain ⟨a', b', c', he⟩ := h e (.head _)
    have hq := run_eq220 a b c a' b' c' w
    by_cases hk : a = a' ∧ b = b' ∧ c = c'
    · obtain ⟨rfl, rfl, rfl⟩ := hk
      exact .inr ⟨0, e, by simp [Instr.findAsking, he, hq], rfl, he⟩
    · have hf : (a == a' && (b == b' && c == c')) = false := by
        rw [Bool.eq_false_iff]; intro hh; simp at hh; exact hk hh
      rw [hf] at hq
      have hne : e.key ≠ k3 a b c := fun hh => hk (by rw [he, k3_inj] at hh; exact ⟨hh.1.symm, hh.2.1.symm, hh.2.2.symm⟩)
      rcases asking220 w a b c es (i + 1) (fun x hx => h x (.tail _ hx)) with ⟨h1, h2⟩ | ⟨j, e', h1, h2, h3⟩
      · refine .inl ⟨by simp [Instr.findAsking, he, hq, h1], fun x hx => ?_⟩
        rcases List.mem_cons.1 hx with rfl | hx
        · exact hne
        · exact h2 x hx
      · exact .inr ⟨j + 1, e', by simp [Instr.findAsking, he, hq, h1]; omega, by simpa using h2, h3⟩
theorem KL220 : KL Try.prog 220 isK3 where
  check := by rintro w em _ ⟨a, b, c, rfl⟩; exact check220 a b c em w
  find := by
    rintro w _ ⟨a, b, c, rfl⟩ es he
    cases es with
    | nil => exact .inl ⟨by simp [Instr.findKey, run_underlying Try.underlying220, Instr.findNow], by simp⟩
    | cons e es =>
      have hn : ∀ n t, Instr.findNow (.array n t) (k3 a b c) (e :: es) 0 = none := fun n t => rfl
      have := asking220 w a b c (e :: es) 0 he
      simp only [Nat.zero_add] at this
      simp only [Instr.findKey, Sem.run_bind, run_underlying Try.underlying220, Result.andThen_ok, hn]
      exact this
  stays := by
    rintro w _ ⟨a, b, c, rfl⟩
    have : Instr.sameBits 10000 (k3 a b c) (k3 a b c) = true := by
      show (_ && _) = true
      simp [Instr.sameBits]
    simp [Instr.keyThatStays, this]
abbrev I3 := Int × Int × Int
def ka3 (x : I3) : Value := k3 x.1 x.2.1 x.2.2
theorem ka3_inj (x y : I3) (h : ka3 x = ka3 y) : x = y := by
  obtain ⟨h1, h2, h3⟩ := k3_inj.1 h
  obtain ⟨a, b, c⟩ := x
  obtain ⟨a', b', c'⟩ := y
  simp only at h1 h2 h3
  rw [h1, h2, h3]
theorem W221 : MapW Try.prog 221 220 3 ka3 (fun k : Int => Value.int .i64 k) (.int .i64 0) := ⟨Try.underlying221, KL220.mono fun _ ⟨x, h⟩ => ⟨_, _, _, h⟩, ka3_inj, zero3⟩
/-- What is remembered is so. -/
def MemoOk (A : Ar) (l : List (I3 × Int)) : Prop := ∀ f g h id, aget l (f, g, h) = some id → (0 ≤ lvlA A f ∧ 0 ≤ lvlA A g ∧ 0 ≤ lvlA A h) ∧ Rep A id (iteF A f g h)
theorem MemoOk.nil (A : Ar) : MemoOk A [] := fun f g h id hh => by simp [aget] at hh
theorem MemoOk.ext {A A' : Ar} {l : List (I3 × Int)} (hA : ArInv A) (hA' : ArInv A') (hx : Ext A A') (h : MemoOk A l) : MemoOk A' l := fun f g k id hh => by
  obtain ⟨⟨h1, h2, h3⟩, h4⟩ := h f g k id hh
  exact ⟨⟨by rw [hx.lvl h1]; exact h1, by rw [hx.lvl h2]; exact h2, by rw [hx.lvl h3]; exact h3⟩, by rw [iteF_ext hA hA' hx h1 h2 h3]; exact h4.ext hA hA' hx⟩
theorem MemoOk.put {A : Ar} {l : List (I3 × Int)} (h : MemoOk A l) {f g k id : Int} (h1 : 0 ≤ lvlA A f) (h2 : 0 ≤ lvlA A g) (h3 : 0 ≤ lvlA A k) (hr : Rep A id (iteF A f g k)) : MemoOk A (aset l (f, g, k) id) := fun f' g' k' id' hh => by
  rw [aget_aset] at hh
  split at hh
  · rename_i he
    injection he with e1 e2
    injection e2 with e2 e3
    subst e1; subst e2; subst e3
    injection hh with hh
    subst hh
    exact ⟨⟨h1, h2, h3⟩, hr⟩
  · exact h f' g' k' id' hh
end Go.Proofs.Ytjebpngdinbckaa
end

section
/- The reference's row and turns. -/
namespace Go.Proofs.Ytjebpngdinbckaa
open Go.Dk
attribute [local irreducible] IntKind.wrap

theorem add_pow_or {x m : Nat} (h : x.testBit m = false) : x + 2 ^ m = x ||| 2 ^ m := by
  have h1 := Nat.div_add_mod x (2 ^ (m + 1))
  have hr : x % 2 ^ (m + 1) < 2 ^ m := by
    have hlt : x % 2 ^ (m + 1) < 2 ^ (m + 1) := Nat.mod_lt _ (Nat.pow_pos (by decide))
    refine Nat.lt_pow_two_of_testBit _ fun i hi => ?_
    rcases Nat.eq_or_lt_of_le hi with rfl | hi
    · rw [Nat.testBit_mod_two_pow, h, Bool.and_false]
    · exact Nat.testBit_lt_two_pow (Nat.lt_of_lt_of_le hlt (Nat.pow_le_pow_right (by decide) hi))
  generalize x / 2 ^ (m + 1) = q at h1
  generalize x % 2 ^ (m + 1) = r at h1 hr
  have h3 : r + 2 ^ m < 2 ^ (m + 1) := by rw [Nat.pow_succ]; omega
  have h4 : r < 2 ^ (m + 1) := by rw [Nat.pow_succ]; omega
  have e1 := Nat.two_pow_add_eq_or_of_lt h3 q
  have e2 := Nat.two_pow_add_eq_or_of_lt h4 q
  have e3 := Nat.two_pow_add_eq_or_of_lt hr 1
  rw [Nat.mul_one] at e3
  rw [← h1, Nat.add_assoc, e1, e2, Nat.or_assoc, Nat.add_comm r, e3, Nat.or_comm (2 ^ m) r]
/-- A point out of what its levels are. -/
def ptTo (o : List Nat) (a : Asg) : Nat → Nat
  | 0 => 0
  | k + 1 => ptTo o a k + (if a k then 2 ^ o.getD k 0 else 0)
theorem testBit_ptTo {o : List Nat} (ho : OrdO o) (a : Asg) : ∀ k, k ≤ o.length → ∀ i, (ptTo o a k).testBit i = true ↔ ∃ j, j < k ∧ o.getD j 0 = i ∧ a j = true
  | 0, _, i => by simp [ptTo]
  | k + 1, hk, i => by
    have ih := testBit_ptTo ho a k (by omega)
    have hno : (ptTo o a k).testBit (o.getD k 0) = false := by
      rw [Bool.eq_false_iff]
      intro h
      obtain ⟨j, hj, he, _⟩ := (ih _).1 h
      have := ho.inj (show j < o.length by omega) (show k < o.length by omega) he
      omega
    simp only [ptTo]
    cases ha : a k with
    | true =>
      rw [if_pos rfl, add_pow_or hno, Nat.testBit_or, Nat.testBit_two_pow, Bool.or_eq_true, ih, decide_eq_true_eq]
      constructor
      · rintro (⟨j, hj, h1, h2⟩ | h)
        · exact ⟨j, by omega, h1, h2⟩
        · exact ⟨k, by omega, h, ha⟩
      · rintro ⟨j, hj, h1, h2⟩
        rcases Nat.lt_succ_iff_lt_or_eq.1 hj with h | h
        · exact .inl ⟨j, h, h1, h2⟩
        · subst h; exact .inr h1
    | false =>
      rw [if_neg (by decide), Nat.add_zero, ih]
      constructor
      · rintro ⟨j, hj, h1, h2⟩
        exact ⟨j, by omega, h1, h2⟩
      · rintro ⟨j, hj, h1, h2⟩
        rcases Nat.lt_succ_iff_lt_or_eq.1 hj with h | h
        · exact ⟨j, h, h1, h2⟩
        · subst h; rw [ha] at h2; cases h2
theorem ptTo_lt {o : List Nat} (ho : OrdO o) (a : Asg) {k : Nat} (hk : k ≤ o.length) : ptTo o a k < 2 ^ o.length := by
  refine Nat.lt_pow_two_of_testBit _ fun i hi => ?_
  rw [Bool.eq_false_iff]
  intro h
  obtain ⟨j, hj, he, _⟩ := (testBit_ptTo ho a k hk i).1 h
  have := ho.get_lt (show j < o.length by omega)
  omega
theorem ptTo_eq {o : List Nat} (ho : OrdO o) (a : Asg) : ptTo o a o.length = ptA o a := by
  refine Nat.eq_of_testBit_eq fun i => ?_
  rw [Bool.eq_iff_iff, testBit_ptTo ho a _ (Nat.le_refl _)]
  unfold ptA
  rw [testBit_mkSet, Bool.and_eq_true, decide_eq_true_eq]
  constructor
  · rintro ⟨j, hj, rfl, ha⟩
    exact ⟨ho.get_lt hj, by rw [ho.idx_get hj]; exact ha⟩
  · rintro ⟨hi, ha⟩
    exact ⟨o.idxOf i, ho.idx_lt hi, ho.get_idx hi, ha⟩
def encB (r : List Bool) : List UInt8 := r.map fun b => if b then 49 else 48
theorem encB_length (r : List Bool) : (encB r).length = r.length := by simp [encB]
theorem encB_inj {r t : List Bool} (h : encB r = encB t) : r = t := by
  unfold encB at h
  refine (List.map_inj_right fun a b hab => ?_).1 h
  cases a <;> cases b <;> first | rfl | (exact absurd hab (by decide))
theorem ent185 : enters Try.prog 185 = true := by kernel_rfl
theorem c185 {o : List Nat} (ho : OrdO o) (s place ahead : Nat) (hp : place ≤ o.length) (ha : ahead < 4611686018427387904) (A B : Option Addr) (ca co : Nat) (w : World)
    (hS : Sl w (.slice A 256 ca) 1 256 (bls (flagsN s))) (hO : Sl w (.slice B o.length co) 1 o.length (intsN o)) :
    Fun Try.prog 185 [.slice A 256 ca, .slice B o.length co, .int .i64 (place : Int), .int .i64 (ahead : Int)] w fun v w' => v = strV (encB (rowS o s place ahead)) ∧ Same w w' := by
  refine fun_of_W (N := 76) Try.func185 ent185 rfl rfl rfl (by simp) ?_
  have H := Hp.start0 w
  have hn := ho.le
  refine cut_rule (γ := Unit) _ rfl (fun _ => []) (fun _ w' => Hp w (fun _ => False) w' [] []) ⟨(), trivial, H⟩ ?_
  clear H
  rintro ⟨⟩ u w0 H
  replace H : Hp _ _ _ _ _ := H
  refine cut_rule (γ := Unit) _ rfl (fun _ => [(9, .int .i64 ((o.length - place : Nat) : Int))]) (fun _ w' => Hp w (fun _ => False) w' [] []) ?_ ?_
  · refine len_sl Try.underlying32 ?_
    exact ⟨(), ⟨congrArg (Value.int .i64) (by rw [wrap_i64_in (by omega) (by omega)]; omega), trivial⟩, H⟩
  clear H
  rintro ⟨⟩ u w1 H
  replace H : Hp _ _ _ _ _ := H
  generalize hN : o.length - place = n
  refine cut_rule (γ := Unit) _ rfl (fun _ => [(10, strV [])]) (fun _ w' => Hp w (fun _ => False) w' [] []) ⟨(), ⟨rfl, trivial⟩, H⟩ ?_
  clear H
  rintro ⟨⟩ u w1 H
  replace H : Hp _ _ _ _ _ := H
  refine cut_rule (γ := Unit) _ rfl (fun _ => [(11, .int .i64 1)]) (fun _ w' => Hp w (fun _ => False) w' [] []) ⟨(), ⟨rfl, trivial⟩, H⟩ ?_
  clear H
  rintro ⟨⟩ u w1 H
  replace H : Hp _ _ _ _ _ := H
  have hpow : ∀ i, i ≤ 8 → 2 ^ i ≤ 256 := fun i hi => pow_le_256 hi
  refine cut_rule (γ := Unit) _ rfl (fun _ => [(11, .int .i64 ((2 ^ n : Nat) : Int))]) (fun _ w' => Hp w (fun _ => False) w' [] []) ?_ ?_
  · refine loop_rule (γ := Nat) _ rfl (fun i => [(12, .int .i64 (i : Int)), (11, .int .i64 ((2 ^ i : Nat) : Int))]) (fun i w' => i ≤ n ∧ Hp w (fun _ => False) w' [] []) (fun i => n - i) 0 ⟨rfl, rfl, trivial⟩ ⟨Nat.zero_le _, H⟩ ?_
    clear H
    rintro i u w2 ⟨hi, H⟩
    replace H : Hp _ _ _ _ _ := H
    refine cond_dec (fun h7 => ?_) (fun h7 => ?_)
    · have h2 := hpow i (by omega)
      have e : 2 ^ (i + 1) = 2 ^ i * 2 := Nat.pow_succ ..
      exact ⟨i + 1, by show n - (i + 1) < n - i; omega, ⟨up (by omega), congrArg (Value.int .i64) (by rw [wrap_i64_in (by omega) (by omega)]; omega), trivial⟩, by show i + 1 ≤ n; omega, H⟩
    · obtain rfl : i = n := by omega
      exact ⟨(), ⟨rfl, trivial⟩, H⟩
  clear H
  rintro ⟨⟩ u w2 H
  replace H : Hp _ _ _ _ _ := H
  have hmany := hpow n (by omega)
  have hrow : rowS o s place ahead = (List.range (2 ^ n)).map fun x => s.testBit (ptA o (mixA place (fun j => ahead.testBit j) (shA place x))) := by
    unfold rowS rowF; rw [hN]; rfl
  rw [hrow]
  generalize 2 ^ n = many at hmany ⊢
  refine cut_rule (γ := Unit) _ rfl (fun _ => [(10, strV (encB ((List.range many).map fun x => s.testBit (ptA o (mixA place (fun j => ahead.testBit j) (shA place x))))))]) (fun _ w' => Hp w (fun _ => False) w' [] []) ?_ ?_
  · refine loop_rule (γ := Nat) _ rfl (fun x => [(13, .int .i64 (x : Int)), (10, strV (encB ((List.range x).map fun x => s.testBit (ptA o (mixA place (fun j => ahead.testBit j) (shA place x))))))]) (fun x w' => x ≤ many ∧ Hp w (fun _ => False) w' [] []) (fun x => many - x) 0 ⟨rfl, rfl, trivial⟩ ⟨Nat.zero_le _, H⟩ ?_
    clear H
    rintro x u w3 ⟨hx, H⟩
    replace H : Hp _ _ _ _ _ := H
    refine cond_dec (fun h7 => ?_) (fun h7 => ?_)
    · refine cut_rule (γ := Unit) _ rfl (fun _ => [(10, strV (encB ((List.range (x + 1)).map fun x => s.testBit (ptA o (mixA place (fun j => ahead.testBit j) (shA place x))))))]) (fun _ w' => Hp w (fun _ => False) w' [] []) ?_ ?_
      · refine cut_rule (γ := Unit) _ rfl (fun _ => [(14, .int .i64 0)]) (fun _ w' => Hp w (fun _ => False) w' [] []) ⟨(), ⟨rfl, trivial⟩, H⟩ ?_
        clear H
        rintro ⟨⟩ u w4 H
        replace H : Hp _ _ _ _ _ := H
        generalize hb : mixA place (fun j => ahead.testBit j) (shA place x) = b
        have hpl : ∀ k, k ≤ o.length → ptTo o b k < 256 := fun k hk => Nat.lt_of_lt_of_le (ptTo_lt ho b hk) (hpow _ hn)
        refine cut_rule (γ := Unit) _ rfl (fun _ => [(14, .int .i64 ((ptA o b : Nat) : Int))]) (fun _ w' => Hp w (fun _ => False) w' [] []) ?_ ?_
        · refine loop_rule (γ := Nat) _ rfl (fun k => [(15, .int .i64 (k : Int)), (14, .int .i64 ((ptTo o b k : Nat) : Int))]) (fun k w' => k ≤ o.length ∧ Hp w (fun _ => False) w' [] []) (fun k => o.length - k) 0 ⟨rfl, rfl, trivial⟩ ⟨Nat.zero_le _, H⟩ ?_
          clear H
          rintro k u w5 ⟨hk, H⟩
          replace H : Hp _ _ _ _ _ := H
          refine len_sl Try.underlying32 ?_
          refine cond_dec (fun h9 => ?_) (fun h9 => ?_)
          · have hkn : k < o.length := by omega
            have hok := ho.get_lt hkn
            have hget := intsN_get hkn
            obtain ⟨g2, o2, rfl⟩ := hO.A (by omega)
            refine cut_rule (γ := Unit) _ rfl (fun _ => [(14, .int .i64 ((ptTo o b (k + 1) : Nat) : Int))]) (fun _ w' => Hp w (fun _ => False) w' [] []) ?_ ?_
            · refine cut_rule (γ := Unit) _ rfl (fun _ => [(16, .int .i64 ((ahead / 2 ^ k % 2 : Nat) : Int))]) (fun _ w' => Hp w (fun _ => False) w' [] []) ?_ ?_
              · refine call_fn (c48 ahead k (by omega) (by omega) _) ?_
                rintro _ w6 ⟨rfl, hk6⟩
                exact ⟨(), ⟨rfl, trivial⟩, H.same hk6⟩
              clear H
              rintro ⟨⟩ u w6 H
              replace H : Hp _ _ _ _ _ := H
              have hbk : b k = if k < place then ahead.testBit k else x.testBit (k - place) := by rw [← hb]; rfl
              refine cut_rule (γ := Unit) _ rfl (fun _ => [(16, .int .i64 (if b k then 1 else 0))]) (fun _ w' => Hp w (fun _ => False) w' [] []) ?_ ?_
              · by_cases hkp : k < place
                · rw [if_pos hkp] at hbk
                  refine cond_no (decide_eq_false (by omega)) ?_
                  have hbit : ((ahead / 2 ^ k % 2 : Nat) : Int) = if b k then 1 else 0 := by rw [bit_mod, hbk]; cases ahead.testBit k <;> rfl
                  exact ⟨(), ⟨congrArg (Value.int .i64) hbit, trivial⟩, H⟩
                · rw [if_neg hkp] at hbk
                  refine cond_yes (decide_eq_true (by omega)) ?_
                  have hwk : IntKind.i64.wrap ((k : Int) - place) = ((k - place : Nat) : Int) := by rw [wrap_i64_in (by omega) (by omega)]; omega
                  have hc := c48 x (k - place) (by omega) (by omega) w6
                  rw [← hwk] at hc
                  refine call_fn hc ?_
                  rintro _ w7 ⟨rfl, hk7⟩
                  have hbit : ((x / 2 ^ (k - place) % 2 : Nat) : Int) = if b k then 1 else 0 := by rw [bit_mod, hbk]; cases x.testBit (k - place) <;> rfl
                  exact ⟨(), ⟨congrArg (Value.int .i64) hbit, trivial⟩, H.same hk7⟩
              clear H
              rintro ⟨⟩ u w7 H
              replace H : Hp _ _ _ _ _ := H
              refine cut_rule (γ := Unit) _ rfl (fun _ => [(17, .int .i64 1)]) (fun _ w' => Hp w (fun _ => False) w' [] []) ⟨(), ⟨rfl, trivial⟩, H⟩ ?_
              clear H
              rintro ⟨⟩ u w7 H
              replace H : Hp _ _ _ _ _ := H
              generalize hm : o.getD k 0 = m at hok hget
              refine cut_rule (γ := Unit) _ rfl (fun _ => [(17, .int .i64 ((2 ^ m : Nat) : Int))]) (fun _ w' => Hp w (fun _ => False) w' [] []) ?_ ?_
              · refine loop_rule (γ := Nat) _ rfl (fun i => [(18, .int .i64 (i : Int)), (17, .int .i64 ((2 ^ i : Nat) : Int))]) (fun i w' => i ≤ m ∧ Hp w (fun _ => False) w' [] []) (fun i => m - i) 0 ⟨rfl, rfl, trivial⟩ ⟨Nat.zero_le _, H⟩ ?_
                clear H
                rintro i u w8 ⟨hi, H⟩
                replace H : Hp _ _ _ _ _ := H
                refine idxAddr_sl Try.underlying32 (s := 1) size3 k rfl hkn (o' := o2 + k) (by omega) ?_
                refine H.loadSl (i := k) hO agg3 _ rfl hget ?_
                refine cond_dec (fun h11 => ?_) (fun h11 => ?_)
                · have h2 := hpow i (by omega)
                  have e : 2 ^ (i + 1) = 2 ^ i * 2 := Nat.pow_succ ..
                  exact ⟨i + 1, by show m - (i + 1) < m - i; omega, ⟨up (by omega), congrArg (Value.int .i64) (by rw [wrap_i64_in (by omega) (by omega)]; omega), trivial⟩, by show i + 1 ≤ m; omega, H⟩
                · obtain rfl : i = m := by omega
                  exact ⟨(), ⟨rfl, trivial⟩, H⟩
              clear H
              rintro ⟨⟩ u w8 H
              replace H : Hp _ _ _ _ _ := H
              have hl1 := hpl k hk
              have h2 := hpow m (by omega)
              have hs1 : ptTo o b (k + 1) = ptTo o b k + if b k then 2 ^ m else 0 := by rw [← hm]; rfl
              rw [hs1]
              refine ⟨(), ⟨congrArg (Value.int .i64) ?_, trivial⟩, H⟩
              generalize 2 ^ m = q at h2
              cases b k
              · simp only [Bool.false_eq_true, if_false, Nat.add_zero, Int.zero_mul]
                rw [wrap_i64_in (x := 0) (by omega) (by omega), wrap_i64_in (by omega) (by omega)]; omega
              · simp only [if_true, Int.one_mul]
                rw [wrap_i64_in (x := (q : Int)) (by omega) (by omega), wrap_i64_in (by omega) (by omega)]; omega
            · clear H
              rintro ⟨⟩ u w6 H
              exact ⟨k + 1, by show o.length - (k + 1) < o.length - k; omega, ⟨up (by omega), rfl, trivial⟩, by show k + 1 ≤ o.length; omega, H⟩
          · obtain rfl : k = o.length := by omega
            rw [← ptTo_eq ho]
            exact ⟨(), ⟨rfl, trivial⟩, H⟩
        clear H
        rintro ⟨⟩ u w5 H
        replace H : Hp _ _ _ _ _ := H
        have hpt : ptA o b < 256 := by rw [← ptTo_eq ho]; exact hpl _ (Nat.le_refl _)
        have hsn : encB ((List.range (x + 1)).map fun x => s.testBit (ptA o (mixA place (fun j => ahead.testBit j) (shA place x)))) = encB ((List.range x).map fun x => s.testBit (ptA o (mixA place (fun j => ahead.testBit j) (shA place x)))) ++ [if s.testBit (ptA o b) then 49 else 48] := by
          rw [List.range_succ, List.map_append, List.map_cons, List.map_nil, hb]; unfold encB; rw [List.map_append]; rfl
        have hel : (encB ((List.range x).map fun x => s.testBit (ptA o (mixA place (fun j => ahead.testBit j) (shA place x))))).length = x := by rw [encB_length]; simp
        rw [hsn]
        obtain ⟨g1, o1, rfl⟩ := hS.A (by omega)
        refine idxAddr_sl Try.underlying29 (s := 1) size4 (ptA o b) rfl hpt (o' := o1 + ptA o b) (by omega) ?_
        refine H.loadSl (i := ptA o b) hS agg4 _ rfl (flagsN_get hpt) ?_
        cases s.testBit (ptA o b) with
        | true =>
          refine cond_yes rfl ?_
          refine bin_add_str (b := [49]) (by rw [hel]; show x + 1 < _; omega) ?_
          exact ⟨(), ⟨rfl, trivial⟩, H⟩
        | false =>
          refine cond_no rfl ?_
          refine bin_add_str (b := [48]) (by rw [hel]; show x + 1 < _; omega) ?_
          exact ⟨(), ⟨rfl, trivial⟩, H⟩
      · clear H
        rintro ⟨⟩ u w4 H
        exact ⟨x + 1, by show many - (x + 1) < many - x; omega, ⟨up (by omega), rfl, trivial⟩, by show x + 1 ≤ many; omega, H⟩
    · obtain rfl : x = many := by omega
      exact ⟨(), ⟨rfl, trivial⟩, H⟩
  clear H
  rintro ⟨⟩ u w3 H
  replace H : Hp _ _ _ _ _ := H
  exact ⟨rfl, H.keeps⟩
theorem encB_get {r : List Bool} {i : Nat} (h : i < (encB r).length) : (encB r)[i] = if r.getD i false then 49 else 48 := by
  have h' := h
  rw [encB_length] at h'
  simp [encB, List.getElem?_eq_getElem h']
theorem ent186 : enters Try.prog 186 = true := by kernel_rfl
theorem c186 (r : List Bool) (hr : r.length ≤ 1000000) (hev : r.length % 2 = 0) (w : World) : Fun Try.prog 186 [strV (encB r)] w fun v w' => v = .bool (turnsB r) ∧ Same w w' := by
  refine fun_of_W (N := 19) Try.func186 ent186 rfl rfl rfl (by simp) ?_
  have H := Hp.start0 w
  have hel := encB_length r
  refine cut_rule (γ := Unit) _ rfl (fun _ => []) (fun _ w' => Hp w (fun _ => False) w' [] []) ⟨(), trivial, H⟩ ?_
  clear H
  rintro ⟨⟩ u w0 H
  replace H : Hp _ _ _ _ _ := H
  refine cut_rule (γ := Unit) _ rfl (fun _ => []) (fun _ w' => (∀ t, t < r.length / 2 → r.getD (2 * t) false = r.getD (2 * t + 1) false) ∧ Hp w (fun _ => False) w' [] []) ?_ ?_
  · refine loop_rule (γ := Nat) _ rfl (fun t => [(3, .int .i64 ((2 * t : Nat) : Int))]) (fun t w' => (2 * t ≤ r.length ∧ ∀ t', t' < t → r.getD (2 * t') false = r.getD (2 * t' + 1) false) ∧ Hp w (fun _ => False) w' [] []) (fun t => r.length - 2 * t) 0 ⟨rfl, trivial⟩ ⟨⟨Nat.zero_le _, fun t h => by omega⟩, H⟩ ?_
    clear H
    rintro t u w1 ⟨⟨ht, hall⟩, H⟩
    replace H : Hp _ _ _ _ _ := H
    have hw1 : IntKind.i64.wrap (((2 * t : Nat) : Int) + 1) = ((2 * t + 1 : Nat) : Int) := by rw [wrap_i64_in (by omega) (by omega)]; omega
    by_cases h3 : 2 * t + 1 < r.length
    · refine len_str Try.underlying9 ?_
      refine cond_yes (decide_eq_true (by rw [hw1]; show ((2 * t + 1 : Nat) : Int) < ((encB r).length : Int); omega)) ?_
      refine H.draw fol (by kernel_rfl) ?_
      clear H
      intro w4 H
      refine quiet _ (fun w H => idx_strL (i := 2 * t) (by omega) Try.underlying9 ⟨rfl, rfl⟩) ?_
      refine quiet _ (fun w H => by rw [hw1]; exact idx_strL (i := 2 * t + 1) (by omega) Try.underlying9 ⟨rfl, rfl⟩) ?_
      rw [encB_get, encB_get]
      refine cond_bne (fun hne => ?_) (fun he => ?_)
      · have : turnsB r = true := by
          unfold turnsB
          refine List.any_eq_true.2 ⟨t, List.mem_range.2 (by omega), ?_⟩
          cases h1 : r.getD (2 * t) false <;> cases h2 : r.getD (2 * t + 1) false <;> first | rfl | (rw [h1, h2] at hne; exact absurd rfl hne)
        rw [this]
        exact ⟨rfl, H.keeps⟩
      · have he' : r.getD (2 * t) false = r.getD (2 * t + 1) false := by
          cases h1 : r.getD (2 * t) false <;> cases h2 : r.getD (2 * t + 1) false <;> first | rfl | (rw [h1, h2] at he; exact absurd he (by decide))
        refine ⟨t + 1, by show r.length - 2 * (t + 1) < r.length - 2 * t; omega, ⟨congrArg (Value.int .i64) (by rw [wrap_i64_in (by omega) (by omega)]; omega), trivial⟩, ⟨by show 2 * (t + 1) ≤ r.length; omega, fun t' ht' => ?_⟩, H⟩
        rcases Nat.lt_succ_iff_lt_or_eq.1 ht' with h | h
        · exact hall t' h
        · subst h; exact he'
    · refine len_str Try.underlying9 ?_
      refine cond_no (decide_eq_false (by rw [hw1]; show ¬ ((2 * t + 1 : Nat) : Int) < ((encB r).length : Int); omega)) ?_
      exact ⟨(), trivial, fun t' ht' => hall t' (by omega), H⟩
  clear H
  rintro ⟨⟩ u w1 ⟨hall, H⟩
  replace H : Hp _ _ _ _ _ := H
  have : turnsB r = false := by
    unfold turnsB
    rw [Bool.eq_false_iff]
    intro h
    obtain ⟨t, h1, h2⟩ := List.any_eq_true.1 h
    have := hall t (List.mem_range.1 h1)
    rw [this] at h2
    simp at h2
  rw [this]
  exact ⟨rfl, H.keeps⟩
end Go.Proofs.Ytjebpngdinbckaa
end

section
/- Points of which an input is turned; flags done step by step. -/
namespace Go.Proofs.Ytjebpngdinbckaa
open Go.Dk
attribute [local irreducible] IntKind.wrap
theorem bits_ext {p q : Nat} (h : ∀ j, p.testBit j = q.testBit j) : p = q := Nat.eq_of_testBit_eq h
theorem flip_up {p i : Nat} (h : p.testBit i = false) : p + 2 ^ i = p ^^^ 2 ^ i := by
  rw [add_pow_or h]
  refine Nat.eq_of_testBit_eq fun j => ?_
  rw [Nat.testBit_or, Nat.testBit_xor, Nat.testBit_two_pow]
  by_cases hj : i = j
  · subst hj; rw [h]; simp
  · simp [hj]
theorem flip_bit (p i : Nat) : (p ^^^ 2 ^ i).testBit i = !p.testBit i := by
  rw [Nat.testBit_xor, Nat.testBit_two_pow]; simp
theorem flip_flip (p i : Nat) : p ^^^ 2 ^ i ^^^ 2 ^ i = p := by rw [Nat.xor_assoc, Nat.xor_self, Nat.xor_zero]
theorem flip_down {p i : Nat} (h : p.testBit i = true) : 2 ^ i ≤ p ∧ p - 2 ^ i = p ^^^ 2 ^ i := by
  have h1 : (p ^^^ 2 ^ i).testBit i = false := by rw [flip_bit, h]; rfl
  have h2 := flip_up h1
  rw [flip_flip] at h2
  omega
theorem flip_lt {p i n : Nat} (hp : p < 2 ^ n) (hi : i < n) : p ^^^ 2 ^ i < 2 ^ n := Nat.xor_lt_two_pow hp (Nat.pow_lt_pow_right (by decide) hi)
/-- A point with an input turned so. -/
def toP (p i : Nat) (b : Bool) : Nat := if p.testBit i = b then p else p ^^^ 2 ^ i
theorem tb_toP (p i : Nat) (b : Bool) (j : Nat) : (toP p i b).testBit j = if j = i then b else p.testBit j := by
  unfold toP
  split
  · rename_i h
    split
    · rename_i e; rw [e, h]
    · rfl
  · rename_i h
    rw [Nat.testBit_xor, Nat.testBit_two_pow]
    split
    · rename_i e
      subst e
      rw [decide_eq_true rfl]
      cases hb : p.testBit j <;> rw [hb] at h <;> cases b <;> first | rfl | exact absurd rfl h
    · rename_i e
      rw [decide_eq_false (Ne.symm e), Bool.xor_false]
theorem toP_lt {p i n : Nat} (b : Bool) (hp : p < 2 ^ n) (hi : i < n) : toP p i b < 2 ^ n := by
  unfold toP; split
  · exact hp
  · exact flip_lt hp hi
theorem toP_lt8 {p i : Nat} (b : Bool) (hp : p < 256) (hi : i < 8) : toP p i b < 256 := toP_lt (n := 8) b hp hi
/-- Flags of which those below k are done. -/
def upF (f g : Nat → Bool) (k : Nat) : List Bool := (List.range 256).map fun p => if p < k then f p else g p
theorem upF_length (f g : Nat → Bool) (k : Nat) : (upF f g k).length = 256 := by simp [upF]
theorem upF_zero (n : Nat) (f : Nat → Bool) : upF f (fun p => decide (p < 2 ^ n)) 0 = allFlags n := by simp [upF, allFlags]
theorem upF_get {f g : Nat → Bool} {k : Nat} (hk : k < 256) : (bls (upF f g k))[k]? = some (.bool (g k)) := by
  rw [bls_get (by rw [upF_length]; exact hk)]; simp [upF]
theorem upF_set {f g : Nat → Bool} {k : Nat} (hk : k < 256) : (upF f g k).set k (f k) = upF f g (k + 1) := by
  apply List.ext_getElem (by simp [upF])
  intro p h1 h2
  rw [List.getElem_set]
  simp only [upF, List.getElem_map, List.getElem_range]
  by_cases h : k = p
  · subst h
    rw [if_pos rfl, if_pos (by omega)]
  · have : p < k ↔ p < k + 1 := by omega
    simp [h, this]
theorem upF_all (f g : Nat → Bool) : ofFlags (upF f g 256) = setOf f := by
  refine set_ext (setOf_lt _) (setOf_lt _) fun p hp => ?_
  rw [testBit_ofFlags, testBit_setOf]
  simp only [hp, upF, decide_true, Bool.true_and, List.getD_eq_getElem?_getD, List.getElem?_map, List.getElem?_range, Option.map_some, Option.getD_some, if_true]
theorem toP_self (p i : Nat) : toP p i (p.testBit i) = p := by unfold toP; rw [if_pos rfl]
theorem toP_toP (p i : Nat) (b c : Bool) : toP (toP p i b) i c = toP p i c := bits_ext fun j => by
  rw [tb_toP, tb_toP, tb_toP]; split <;> rfl
theorem up_asg {o : List Nat} (ho : OrdO o) (p : Nat) {k : Nat} (hk : k < o.length) (b : Bool) : ∀ j, upA (asgP o p) (o.idxOf k) b j = asgP o (toP p k b) j := fun j => by
  unfold upA
  by_cases hj : j = o.idxOf k
  · rw [if_pos hj]
    subst hj
    unfold asgP
    rw [decide_eq_true (ho.idx_lt hk), Bool.true_and, ho.get_idx hk, tb_toP, if_pos rfl]
  · rw [if_neg hj]
    unfold asgP
    by_cases hjn : j < o.length
    · rw [decide_eq_true hjn, Bool.true_and, Bool.true_and, tb_toP, if_neg]
      intro h
      exact hj (by rw [← h, ho.idx_get hjn])
    · rw [decide_eq_false hjn]; rfl
theorem up_asg' {o : List Nat} (ho : OrdO o) (p : Nat) {k : Nat} (hk : k < o.length) (b : Bool) : upA (asgP o p) (o.idxOf k) b = asgP o (toP p k b) := funext (up_asg ho p hk b)
end Go.Proofs.Ytjebpngdinbckaa
end

section
/- The reference's Size. -/
namespace Go.Proofs.Ytjebpngdinbckaa
open Go.Dk
attribute [local irreducible] IntKind.wrap

def strsB (l : List (List Bool)) : List Value := l.map fun r => strV (encB r)
theorem strsB_get {l : List (List Bool)} {i : Nat} {r : List Bool} (h : l[i]? = some r) : (strsB l)[i]? = some (strV (encB r)) := by unfold strsB; rw [List.getElem?_map, h]; rfl
theorem ent112 : enters Try.prog 112 = true := by kernel_rfl
theorem c112 {o : List Nat} (ho : OrdO o) (s : Nat) (B : Option Addr) (co : Nat) (w : World) (hO : Sl w (.slice B o.length co) 1 o.length (intsN o)) :
    Fun Try.prog 112 [sv s, .slice B o.length co] w fun v w' => v = .int .i64 ((sizeS o s : Nat) : Int) ∧ Same w w' := by
  refine fun_of_W (N := 61) Try.func112 ent112 rfl rfl rfl (by simp) ?_
  have H := Hp.start0 w
  have hn := ho.le
  have hpow : ∀ i, i ≤ 8 → 2 ^ i ≤ 256 := fun i hi => pow_le_256 hi
  refine cut_rule (γ := Nat) _ rfl (fun g => [(2, .pointer (some ⟨g, 0, none⟩))]) (fun g w' => Hp w (fun _ => False) w' [blk g 24 (sc s)] []) ?_ ?_
  · refine H.box 24 (sv s) (cs := sc s) rfl ?_
    clear H
    intro g1 w1 H
    exact ⟨g1, ⟨rfl, trivial⟩, H⟩
  clear H
  rintro g u w1 H
  replace H : Hp _ _ _ _ _ := H
  refine cut_rule (γ := Option Addr × Nat) _ rfl (fun (A, ca) => [(5, .slice A 256 ca)]) (fun (A, ca) w' => Hp w (fun _ => False) w' [own 4 1 (.slice A 256 ca) 256 (bls (flagsN s))] []) ?_ ?_
  · refine H.loadAll 0 rfl agg24 size24 ?_
    refine call_fn (c40 s _) ?_
    rintro _ w2 ⟨A, ca, rfl, hn2⟩
    exact ⟨(A, ca), ⟨rfl, trivial⟩, (((H.addNew hn2).front 1 rfl).forget)⟩
  clear H
  rintro ⟨A, ca⟩ u w2 H
  replace H : Hp _ _ _ _ _ := H
  refine cut_rule (γ := Unit) _ rfl (fun _ => [(6, .int .i64 0)]) (fun _ w' => Hp w (fun _ => False) w' [own 4 1 (.slice A 256 ca) 256 (bls (flagsN s))] []) ⟨(), ⟨rfl, trivial⟩, H⟩ ?_
  clear H
  rintro ⟨⟩ u w3 H
  replace H : Hp _ _ _ _ _ := H
  refine cut_rule (γ := Unit) _ rfl (fun _ => [(7, .int .i64 1)]) (fun _ w' => Hp w (fun _ => False) w' [own 4 1 (.slice A 256 ca) 256 (bls (flagsN s))] []) ⟨(), ⟨rfl, trivial⟩, H⟩ ?_
  clear H
  rintro ⟨⟩ u w3 H
  replace H : Hp _ _ _ _ _ := H
  refine cut_rule (γ := Unit) _ rfl (fun _ => [(6, .int .i64 ((sizeS o s : Nat) : Int))]) (fun _ w' => Hp w (fun _ => False) w' [own 4 1 (.slice A 256 ca) 256 (bls (flagsN s))] []) ?_ ?_
  · refine loop_rule (γ := Nat) _ rfl (fun k => [(8, .int .i64 (k : Int)), (6, .int .i64 ((sizeTo o s k : Nat) : Int)), (7, .int .i64 ((2 ^ k : Nat) : Int))]) (fun k w' => k ≤ o.length ∧ Hp w (fun _ => False) w' [own 4 1 (.slice A 256 ca) 256 (bls (flagsN s))] []) (fun k => o.length - k) 0 ⟨rfl, rfl, rfl, trivial⟩ ⟨Nat.zero_le _, H⟩ ?_
    clear H
    rintro k u w4 ⟨hk, H⟩
    replace H : Hp _ _ _ _ _ := H
    refine len_sl Try.underlying32 ?_
    refine cond_dec (fun h7 => ?_) (fun h7 => ?_)
    · have hkn : k < o.length := by omega
      have h2k := hpow k (by omega)
      have hsk := sizeTo_le o s k
      have hml := metTo_len o s k
      have hrl : ∀ x, (rowS o s k x).length = 2 ^ (o.length - k) := fun x => rowF_length _ _ _
      have hev : 2 ^ (o.length - k) % 2 = 0 := by
        obtain ⟨j, hj⟩ : ∃ j, o.length - k = j + 1 := ⟨o.length - k - 1, by omega⟩
        rw [hj, Nat.pow_succ]; omega
      have hrb := hpow (o.length - k) (by omega)
      refine cut_rule (γ := Unit) _ rfl (fun _ => [(6, .int .i64 ((sizeTo o s (k + 1) : Nat) : Int)), (7, .int .i64 ((2 ^ (k + 1) : Nat) : Int))]) (fun _ w' => Hp w (fun _ => False) w' [own 4 1 (.slice A 256 ca) 256 (bls (flagsN s))] []) ?_ ?_
      · have e2 : 2 ^ (k + 1) = 2 ^ k * 2 := Nat.pow_succ ..
        have es : sizeTo o s (k + 1) = sizeTo o s k + (metTo o s k (2 ^ k)).length := rfl
        rw [e2, es]
        generalize 2 ^ k = many at h2k hsk ⊢
        refine cut_rule (γ := Unit) _ rfl (fun _ => [(9, .slice none 0 0)]) (fun _ w' => Hp w (fun _ => False) w' [own 4 1 (.slice A 256 ca) 256 (bls (flagsN s))] []) ⟨(), ⟨rfl, trivial⟩, H⟩ ?_
        clear H
        rintro ⟨⟩ u w5 H
        replace H : Hp _ _ _ _ _ := H
        have H2 := H.ownNil 9 1
        clear H
        refine cut_rule (γ := Option Addr × Nat) _ rfl (fun (C, d) => [(9, .slice C (metTo o s k many).length d)]) (fun (C, d) w' => Hp w (fun _ => False) w' [own 9 1 (.slice C (metTo o s k many).length d) (metTo o s k many).length (strsB (metTo o s k many)), own 4 1 (.slice A 256 ca) 256 (bls (flagsN s))] []) ?_ ?_
        · refine loop_rule (γ := Nat × Option Addr × Nat) _ rfl (fun (x, C, d) => [(10, .int .i64 (x : Int)), (9, .slice C (metTo o s k x).length d)]) (fun (x, C, d) w' => x ≤ many ∧ Hp w (fun _ => False) w' [own 9 1 (.slice C (metTo o s k x).length d) (metTo o s k x).length (strsB (metTo o s k x)), own 4 1 (.slice A 256 ca) 256 (bls (flagsN s))] []) (fun (x, _) => many - x) (0, none, 0) ⟨rfl, rfl, trivial⟩ ⟨Nat.zero_le _, H2⟩ ?_
          clear H2
          rintro ⟨x, C, d⟩ u w6 ⟨hx, H⟩
          replace H : Hp _ _ _ _ _ := H
          have hmx := hml x
          refine cond_dec (fun h9 => ?_) (fun h9 => ?_)
          · refine cut_rule (γ := Option Addr × Nat) _ rfl (fun (C, d) => [(9, .slice C (metTo o s k (x + 1)).length d)]) (fun (C, d) w' => Hp w (fun _ => False) w' [own 9 1 (.slice C (metTo o s k (x + 1)).length d) (metTo o s k (x + 1)).length (strsB (metTo o s k (x + 1))), own 4 1 (.slice A 256 ca) 256 (bls (flagsN s))] []) ?_ ?_
            · refine cut_rule (γ := Unit) _ rfl (fun _ => [(11, strV (encB (rowS o s k x)))]) (fun _ w' => Hp w (fun _ => False) w' [own 9 1 (.slice C (metTo o s k x).length d) (metTo o s k x).length (strsB (metTo o s k x)), own 4 1 (.slice A 256 ca) 256 (bls (flagsN s))] []) ?_ ?_
              · refine call_fn (c185 ho s k x (by omega) (by omega) A B ca co _ (own_Sl (H.get 1 rfl)) (hO.same H.keeps)) ?_
                rintro _ w7 ⟨rfl, hk7⟩
                exact ⟨(), ⟨rfl, trivial⟩, H.same hk7⟩
              clear H
              rintro ⟨⟩ u w7 H
              replace H : Hp _ _ _ _ _ := H
              have hrx := hrl x
              refine cut_rule (γ := Unit) _ rfl (fun _ => [(12, .bool (turnsB (rowS o s k x)))]) (fun _ w' => Hp w (fun _ => False) w' [own 9 1 (.slice C (metTo o s k x).length d) (metTo o s k x).length (strsB (metTo o s k x)), own 4 1 (.slice A 256 ca) 256 (bls (flagsN s))] []) ?_ ?_
              · refine call_fn (c186 (rowS o s k x) (by omega) (by omega) _) ?_
                rintro _ w8 ⟨rfl, hk8⟩
                exact ⟨(), ⟨rfl, trivial⟩, H.same hk8⟩
              clear H
              rintro ⟨⟩ u w8 H
              replace H : Hp _ _ _ _ _ := H
              have hsn : metTo o s k (x + 1) = if turnsB (rowS o s k x) && !(metTo o s k x).contains (rowS o s k x) then metTo o s k x ++ [rowS o s k x] else metTo o s k x := rfl
              refine cut_rule (γ := Unit) _ rfl (fun _ => [(12, .bool (turnsB (rowS o s k x) && !(metTo o s k x).contains (rowS o s k x)))]) (fun _ w' => Hp w (fun _ => False) w' [own 9 1 (.slice C (metTo o s k x).length d) (metTo o s k x).length (strsB (metTo o s k x)), own 4 1 (.slice A 256 ca) 256 (bls (flagsN s))] []) ?_ ?_
              · refine loop_rule (γ := Nat) _ rfl (fun i => [(13, .int .i64 (i : Int)), (12, .bool (turnsB (rowS o s k x) && !((metTo o s k x).take i).contains (rowS o s k x)))]) (fun i w' => i ≤ (metTo o s k x).length ∧ Hp w (fun _ => False) w' [own 9 1 (.slice C (metTo o s k x).length d) (metTo o s k x).length (strsB (metTo o s k x)), own 4 1 (.slice A 256 ca) 256 (bls (flagsN s))] []) (fun i => (metTo o s k x).length - i) 0 ⟨rfl, congrArg Value.bool (Bool.and_true _).symm, trivial⟩ ⟨Nat.zero_le _, H⟩ ?_
                clear H
                rintro i u w9 ⟨hi, H⟩
                replace H : Hp _ _ _ _ _ := H
                refine len_sl Try.underlying195 ?_
                refine cond_dec (fun h11 => ?_) (fun h11 => ?_)
                · obtain ⟨y, hy⟩ : ∃ y, (metTo o s k x)[i]? = some y := ⟨_, List.getElem?_eq_getElem (by omega)⟩
                  obtain ⟨gC, rfl⟩ := H.ownA 0 rfl (by omega)
                  have htk : (turnsB (rowS o s k x) && !((metTo o s k x).take (i + 1)).contains (rowS o s k x)) = ((turnsB (rowS o s k x) && !((metTo o s k x).take i).contains (rowS o s k x)) && !(y == (rowS o s k x))) := by
                    have : ((metTo o s k x).take (i + 1)).contains (rowS o s k x) = (((metTo o s k x).take i).contains (rowS o s k x) || (y == (rowS o s k x))) := by
                      rw [List.take_add_one, hy, Bool.eq_iff_iff, Bool.or_eq_true, List.contains_iff_mem, List.contains_iff_mem, List.mem_append, beq_iff_eq]
                      simp only [Option.toList_some, List.mem_singleton]
                      exact or_congr Iff.rfl eq_comm
                    rw [this, Bool.not_or, Bool.and_assoc]
                  have hey : (encB y == encB (rowS o s k x)) = (y == (rowS o s k x)) := by
                    rw [Bool.eq_iff_iff, beq_iff_eq, beq_iff_eq]
                    exact ⟨encB_inj, fun h => by rw [h]⟩
                  refine cut_rule (γ := Unit) _ rfl (fun _ => [(12, .bool (turnsB (rowS o s k x) && !((metTo o s k x).take (i + 1)).contains (rowS o s k x)))]) (fun _ w' => Hp w (fun _ => False) w' [own 9 1 (.slice (some ⟨gC, 0, none⟩) (metTo o s k x).length d) (metTo o s k x).length (strsB (metTo o s k x)), own 4 1 (.slice A 256 ca) 256 (bls (flagsN s))] []) ?_ ?_
                  · rw [htk]
                    cases (turnsB (rowS o s k x) && !((metTo o s k x).take i).contains (rowS o s k x)) with
                    | true =>
                      iterate 3 refine cond_yes rfl ?_
                      refine idxAddr_sl Try.underlying195 (s := 1) (by kernel_rfl) _ rfl (by first | omega | decide | (simp only [IntKind.wrap_i64]; omega) | (rw [bls, List.length_map]; omega) | (rw [bytesV_length]; omega) | (rw [ints_length]; omega) | (simp; done) | (simp; omega)) (o' := _) (by rw [Nat.zero_add, Nat.mul_one]) ?_
                      refine cond_yes rfl ?_
                      refine H.loadOwn 0 rfl agg9 (strsB_get hy) ?_
                      iterate 2 refine cond_yes rfl ?_
                      refine bin_neq_strL ?_
                      refine cond_yes rfl ?_
                      exact ⟨(), ⟨by rw [← hey]; rfl, trivial⟩, H⟩
                    | false =>
                      iterate 7 refine cond_no rfl ?_
                      exact ⟨(), ⟨rfl, trivial⟩, H⟩
                  · clear H
                    rintro ⟨⟩ u w10 H
                    exact ⟨i + 1, by show (metTo o s k x).length - (i + 1) < (metTo o s k x).length - i; omega, ⟨up (by omega), rfl, trivial⟩, by show i + 1 ≤ (metTo o s k x).length; omega, H⟩
                · rw [List.take_of_length_le (by omega)]
                  exact ⟨(), ⟨rfl, trivial⟩, H⟩
              clear H
              rintro ⟨⟩ u w9 H
              replace H : Hp _ _ _ _ _ := H
              cases hb : (turnsB (rowS o s k x) && !(metTo o s k x).contains (rowS o s k x)) with
              | true =>
                refine cond_yes rfl ?_
                refine H.buildOne T195 rfl ?_
                clear H
                intro g11 w11 H
                refine H.appendOne 0 T195 rfl rfl (by omega) (by omega) ?_
                clear H
                intro A10 k10 w10 H
                have e : metTo o s k (x + 1) = metTo o s k x ++ [rowS o s k x] := by rw [hsn, if_pos hb]
                have e1 : (metTo o s k (x + 1)).length = (metTo o s k x).length + 1 := by rw [e, List.length_append]; rfl
                have e2 : strsB (metTo o s k (x + 1)) = strsB (metTo o s k x) ++ [strV (encB (rowS o s k x))] := by rw [e]; simp [strsB]
                exact ⟨(A10, k10), ⟨by rw [e1]; rfl, trivial⟩, by rw [e1, e2]; exact H⟩
              | false =>
                refine cond_no rfl ?_
                have e : metTo o s k (x + 1) = metTo o s k x := by rw [hsn, hb]; rfl
                exact ⟨(C, d), ⟨by rw [e]; rfl, trivial⟩, by rw [e]; exact H⟩
            · clear H
              rintro ⟨C, d⟩ u w7 H
              exact ⟨(x + 1, C, d), by show many - (x + 1) < many - x; omega, ⟨up (by omega), rfl, trivial⟩, by show x + 1 ≤ many; omega, H⟩
          · obtain rfl : x = many := by omega
            exact ⟨(C, d), ⟨rfl, trivial⟩, H⟩
        clear H2
        rintro ⟨C, d⟩ u w6 H
        replace H : Hp _ _ _ _ _ := H
        have hmm := hml many
        refine len_sl Try.underlying195 ?_
        exact ⟨(), ⟨congrArg (Value.int .i64) (by rw [wrap_i64_in (by omega) (by omega)]; omega), congrArg (Value.int .i64) (by rw [wrap_i64_in (by omega) (by omega)]; omega), trivial⟩, H.forget⟩
      · clear H
        rintro ⟨⟩ u w5 H
        exact ⟨k + 1, by show o.length - (k + 1) < o.length - k; omega, ⟨up (by omega), rfl, rfl, trivial⟩, by show k + 1 ≤ o.length; omega, H⟩
    · obtain rfl : k = o.length := by omega
      exact ⟨(), ⟨rfl, trivial⟩, H⟩
  clear H
  rintro ⟨⟩ u w4 H
  replace H : Hp _ _ _ _ _ := H
  exact ⟨rfl, H.keeps⟩
end Go.Proofs.Ytjebpngdinbckaa
end

section
/- Slices cut short at their room; append that makes a new slice. -/
namespace Go.Dk
section
variable {P : Program} {w0 w w' : World} {F : Nat → Prop} {L M : List Res} {k kk : Value → World → Prop}
/-- s[:i:i]. -/
theorem Sl.sliceHM {t e : TypeId} {sz l c i : Nat} {A : Option Addr} {xs : List Value} {kd kd' : IntKind} {j j' : Int} (hs : Sl w (.slice A l c) sz l xs) (ht : P.underlying t = some (.slice e)) (hz : sizeT P e = some sz) (hj : j = (i : Int)) (hj' : j' = (i : Int)) (hi : i ≤ l)
    (h : ∀ A', Sl w (.slice A' i i) sz i (xs.take (i * sz)) → kk (.slice A' i i) w) : sliceK P t (.slice A l c) none (some (.int kd j)) (some (.int kd' j')) w kk := by
  subst hj; subst hj'
  obtain ⟨hlen, A1, c1, hv, hlc, hcase⟩ := hs
  injection hv with e1 _ e2
  subst e1; subst e2
  unfold sliceK
  refine ⟨sliced A 0 i i sz, w, ?_, ?_⟩
  · rw [run_sliceAt_slice w t _ _ _ _ (elemOf ht), run_slice_hm w t A l c (elemOf ht) kd kd' (i : Int) (i : Int) (by omega) (by omega) (by omega), elemIs ht, run_sizeOf hz]
    rfl
  · have e : sliced A 0 i i sz = .slice (if i = 0 then A else A.map (·.add 0)) i i := by unfold sliced; simp
    rw [e]
    refine h _ ?_
    rcases Nat.eq_zero_or_pos i with rfl | h0
    · exact Sl.empty rfl (by simp)
    · rcases hcase with h1 | ⟨g, o, rfl, hg, hx⟩
      · omega
      · refine ⟨?_, _, i, rfl, by omega, .inr ⟨g, o, ?_, hg, fun j hj => ?_⟩⟩
        · rw [List.length_take, hlen]
          have := Nat.mul_le_mul_right sz hi
          omega
        · rw [if_neg (by omega)]
          simp [addr_add]
        · have := Nat.mul_le_mul_right sz hi
          rw [hx j (by omega), List.getElem?_take]
          rw [if_pos hj]
/-- The same, where the value is to be named ahead of the world. -/
theorem slice_hm {t e : TypeId} {sz l c i : Nat} {A : Option Addr} {kd kd' : IntKind} {j j' : Int} (ht : P.underlying t = some (.slice e)) (hz : sizeT P e = some sz) (hj : j = (i : Int)) (hj' : j' = (i : Int)) (hi : i ≤ c)
    (h : kk (sliced A 0 i i sz) w) : sliceK P t (.slice A l c) none (some (.int kd j)) (some (.int kd' j')) w kk := by
  subst hj; subst hj'
  unfold sliceK
  refine ⟨sliced A 0 i i sz, w, ?_, h⟩
  rw [run_sliceAt_slice w t _ _ _ _ (elemOf ht), run_slice_hm w t A l c (elemOf ht) kd kd' (i : Int) (i : Int) (by omega) (by omega) (by omega), elemIs ht, run_sizeOf hz]
  rfl
theorem slice_l {t e : TypeId} {sz l c i : Nat} {A : Option Addr} {kd : IntKind} {j : Int} (ht : P.underlying t = some (.slice e)) (hz : sizeT P e = some sz) (hj : j = (i : Int)) (hi : i ≤ l)
    (h : kk (sliced A i l c sz) w) : sliceK P t (.slice A l c) (some (.int kd j)) none none w kk := by
  subst hj
  unfold sliceK
  refine ⟨sliced A i l c sz, w, ?_, h⟩
  rw [run_sliceAt_slice w t _ _ _ _ (elemOf ht), run_slice_l w t A l c (elemOf ht) kd (i : Int) (by omega) (by omega), elemIs ht, run_sizeOf hz]
  rfl
theorem sliced_hm {sz l c i : Nat} {A : Option Addr} {xs : List Value} (hs : Sl w (.slice A l c) sz l xs) (hi : i ≤ l) : ∃ A', sliced A 0 i i sz = .slice A' i i ∧ (A' = none → i = 0) ∧ Sl w (.slice A' i i) sz i (xs.take (i * sz)) := by
  obtain ⟨hlen, A1, c1, hv, hlc, hcase⟩ := hs
  injection hv with e1 _ e2
  subst e1; subst e2
  have e : sliced A 0 i i sz = .slice (if i = 0 then A else A.map (·.add 0)) i i := by unfold sliced; simp
  refine ⟨_, e, ?_, ?_⟩
  · intro hn
    split at hn
    · assumption
    · rcases hcase with h1 | ⟨g, o, rfl, hg, hx⟩
      · omega
      · cases hn
  · rcases Nat.eq_zero_or_pos i with rfl | h0
    · exact Sl.empty rfl (by simp)
    · rcases hcase with h1 | ⟨g, o, rfl, hg, hx⟩
      · omega
      · refine ⟨?_, _, i, rfl, by omega, .inr ⟨g, o, ?_, hg, fun j hj => ?_⟩⟩
        · rw [List.length_take, hlen]
          have := Nat.mul_le_mul_right sz hi
          omega
        · rw [if_neg (by omega)]
          simp [addr_add]
        · have := Nat.mul_le_mul_right sz hi
          rw [hx j (by omega), List.getElem?_take]
          rw [if_pos hj]
theorem sliced_l {t e : TypeId} {sz l c i : Nat} {A : Option Addr} {xs : List Value} (ht : P.underlying t = some (.slice e)) (hz : sizeT P e = some sz) (hs : Sl w (.slice A l c) sz l xs) (hi : i ≤ l) : ∃ A' c', sliced A i l c sz = .slice A' (l - i) c' ∧ Sl w (.slice A' (l - i) c') sz (l - i) (xs.drop (i * sz)) := by
  have e : sliced A i l c sz = .slice (if c = i then A else A.map (·.add (i * sz))) (l - i) (c - i) := rfl
  have h := hs.sliceFrom (kk := fun v _ => ∃ A' c', v = .slice A' (l - i) c' ∧ Sl w (.slice A' (l - i) c') sz (l - i) (xs.drop (i * sz))) (kd := .i64) (j := (i : Int)) ht hz rfl hi (fun A' c' h => ⟨A', c', rfl, h⟩)
  unfold sliceK at h
  obtain ⟨v, w2, hr, hk⟩ := h
  rw [run_sliceAt_slice w t _ _ _ _ (elemOf ht), run_slice_l w t A l c (elemOf ht) .i64 (i : Int) (by omega) (by omega), elemIs ht, run_sizeOf hz] at hr
  have hr' : Result.ok (sliced A (i : Int).toNat l c sz) w = Result.ok v w2 := hr
  injection hr' with h1 h2
  rw [← h1] at hk
  exact hk
theorem Sl.cells {sz l c : Nat} {a : Addr} {xs : List Value} (hs : Sl w (.slice (some a) l c) sz l xs) : ∀ j u, xs[j]? = some u → w.cell? (a.add j) = some u := fun j u hu => by
  have hjl := (List.getElem?_eq_some_iff.1 hu).1
  have hl := hs.1
  have hc : 0 < l := by
    rcases Nat.eq_zero_or_pos l with h0 | h0
    · subst h0; simp at hl; subst hl; simp at hjl
    · exact h0
  obtain ⟨g', o', ha⟩ := hs.A hc
  injection ha with ha
  subst ha
  rw [addr_add, hs.cell j (by omega), hu]
/-- append onto a slice that has no more room: a new one. -/
theorem Hp.appendNew (H : Hp w0 F w L M) {t e ty : TypeId} {z : Value} {sz b l m c : Nat} {A D : Option Addr} {xs ys : List Value} {cst : Array Bool} (T : SlT P t e z sz b)
    (hs : Sl w (.slice A l l) sz l xs) (hn : Sl w (.slice D m c) sz m ys) (hA : A = none → l = 0) (hm : 0 < m) (hl : (l + m) * b ≤ 140737488355328) (hl' : l + m < 1152921504606846976)
    (h : ∀ g c' w', Hp w0 F w' (own e sz (.slice (some ⟨g, 0, none⟩) (l + m) c') (l + m) (xs ++ ys) :: L) M → kk (.slice (some ⟨g, 0, none⟩) (l + m) c') w') : builtinK P .append #[t, t] ty cst [.slice A l l, .slice D m c] w kk := by
  obtain ⟨i, hi, hz, hsz, hb⟩ := T.parts
  subst hsz; subst hb
  obtain ⟨g', o', rfl⟩ := hn.A hm
  have hlen : (xs ++ ys).length = (l + m) * i.size := by rw [List.length_append, hs.1, hn.1, Nat.add_mul]
  have hml : l + m ≤ maxLen := by unfold maxLen; omega
  have hfit := growslice_fits (need := l + m) (old := l) (by omega) hl
  have grown : ∀ (old : Nat), old < l + m →
      Hp w0 F (w.drew.alloc (.cells (xs.toArray ++ ys.toArray ++ Builtin.zeroCells z.cells (grownCap w (l + m) old e - (l + m))) e)) (own e i.size (.slice (some ⟨w.heap.size, 0, none⟩) (l + m) (grownCap w (l + m) old e)) (l + m) (xs ++ ys) :: L) M := by
    intro old ho
    have hge := grownCap_ge w (l + m) old e
    have hcm : grownCap w (l + m) old e ≤ maxLen := grownCap_le_maxLen w (l + m) old e hml
    refine H.add ((Keeps.drew w).trans (Keeps.alloc _ _) (fun _ _ h => h)) _ ⟨hlen, .inr ⟨w.heap.size, _, _, rfl, Nat.zero_le _, heap_alloc_new w.drew _, hge, hcm, ?_, ?_⟩⟩ ?_
    · simp only [Array.size_append, List.size_toArray, size_zeroCells, T.zs, hs.1, hn.1, ← Nat.add_mul]
      congr 1
      omega
    · simp only [Array.toList_append, List.append_assoc]
      rw [← List.append_assoc, ← hlen]
      exact List.take_left
    · intro x hx
      have hx : some w.heap.size = some x := hx
      injection hx with hx
      subst hx
      exact ⟨Nat.le_refl _, by simp⟩
  rcases A with _ | a
  · have h0 := hA rfl
    subst h0
    have hx : xs = [] := List.eq_nil_of_length_eq_zero (by simpa using hs.1)
    subst hx
    have hgr := grown 0 (by omega)
    rw [Nat.zero_add] at *
    unfold builtinK
    refine ⟨_, _, ?_, h _ _ _ hgr⟩
    show (do pure (.value (← Builtin.append_ #[t, t] ty #[.slice none 0 0, .slice (some ⟨g', o', none⟩) m c])) : Sem Next).run P w = _
    rw [Sem.run_bind, run_append_nil w t ty e i z T.und hi hz _ m c ys hn.1 hn.cells hm (by unfold maxLen at hml; omega) (by omega)]
    simp [Result.andThen]
  · have hgr := grown l (by omega)
    unfold builtinK
    refine ⟨_, _, ?_, h _ _ _ hgr⟩
    show (do pure (.value (← Builtin.append_ #[t, t] ty #[.slice (some a) l l, .slice (some ⟨g', o', none⟩) m c])) : Sem Next).run P w = _
    rw [Sem.run_bind, run_append_grow w t ty e i z T.und hi hz a l l xs hs.1 hs.cells _ m c ys hn.1 hn.cells (by omega) (by unfold maxLen at hml; omega) hfit]
    rfl
end
end Go.Dk
end

section
/- More arguments of laws, opened: lists of sets. -/
namespace Go.Proofs.Ytjebpngdinbckaa
open Go.Dk Go.ChangeShapes Go.WideShapes Go.ChangeAt Go.RowKit
def encZ (s : Nat) : List Value := (sc s).toList
theorem encZ_length (s : Nat) : (encZ s).length = 4 := rfl
def SetsAt (w : World) (v : Value) (l : List Nat) : Prop := ∃ B c, v = .slice B l.length c ∧ l.length ≤ 9223372036854775807 ∧ (∀ s ∈ l, s < 2 ^ 256) ∧ Sl w (.slice B l.length c) 4 l.length (flat encZ l)
section
variable {H : Type} {enc : TypeId × Value → H} {w : World} {base b : Nat} {spare : Nat → Bool} {held : Bool}
theorem cells24 : Try.prog.cellsOf 24 = 4 := by kernel_rfl
theorem cells22 : Try.prog.cellsOf 22 = 1 := by kernel_rfl
set_option maxRecDepth 100000 in
theorem set_at {fuel : Nat} {r : List Value} {x : DataW H × List MemPlace} (h : DataW.trod enc Try.prog w base spare held fuel 24 r = some x) : ∃ n, n < 2 ^ 256 ∧ r = encZ n := by
  have hl : r.length = 4 := by
    obtain ⟨ys, m, _, _, hl, _, _⟩ := DataW.trod_array Try.underlying24 h
    rw [cells24] at hl
    exact hl
  match r, hl, h with
  | [c0, c1, c2, c3], _, hf =>
    obtain ⟨y0, y1, y2, y3, n, _, k0, k1, k2, k3⟩ := trod_array4 Try.underlying24 cells22 hf
    obtain ⟨n0, rfl, l0⟩ := word_at Try.underlying22 k0
    obtain ⟨n1, rfl, l1⟩ := word_at Try.underlying22 k1
    obtain ⟨n2, rfl, l2⟩ := word_at Try.underlying22 k2
    obtain ⟨n3, rfl, l3⟩ := word_at Try.underlying22 k3
    obtain ⟨n, hn, he⟩ := sv_of l0 l1 l2 l3
    refine ⟨n, hn, ?_⟩
    unfold sv at he
    injection he with he
    unfold encZ
    rw [← he]
set_option maxRecDepth 100000 in
theorem arg_sets {v : Value} {d : DataW H} {ps : List MemPlace} (hval : Value.okWide Try.prog w .any b 111 v) (h : DataW.Trod enc Try.prog w base spare held 111 v d ps) : ∃ l, SetsAt w v l := by
  obtain ⟨a, l, c, rfl⟩ := okWide_slice Try.underlying111 hval
  obtain ⟨fuel, hf⟩ := h
  obtain ⟨A, c, l, hv, hl, hok, hs⟩ := arg_list Try.underlying111 cells24 (by decide) encZ (fun s => s < 2 ^ 256) encZ_length (fun fuel r y hy => set_at hy) hf
  exact ⟨l, A, c, hv, hl, hok, hs⟩
end
end Go.Proofs.Ytjebpngdinbckaa
end

section
/- Orders of inputs: great, may, Plain, Same. -/
namespace Go.Proofs.Ytjebpngdinbckaa
open Go.Dk
attribute [local irreducible] IntKind.wrap

theorem ent94 : enters Try.prog 94 = true := by kernel_rfl
theorem c94 (A B : Option Addr) (n m c d : Nat) (w : World) : Fun Try.prog 94 [.slice A n c, .slice B m d] w fun v w' => v = .bool (decide (20 < n ∨ 20 < m)) ∧ Same w w' := by
  refine fun_of_W (N := 13) Try.func94 ent94 rfl rfl rfl (by simp) ?_
  have H := Hp.start0 w
  refine cut_rule (γ := Unit) _ rfl (fun _ => []) (fun _ w' => Hp w (fun _ => False) w' [] []) ⟨(), trivial, H⟩ ?_
  clear H
  rintro ⟨⟩ u w0 H
  replace H : Hp _ _ _ _ _ := H
  by_cases h1 : (20 : Int) < n
  · rw [decide_eq_true (Or.inl (by omega))]
    refine len_sl Try.underlying111 ?_
    iterate 4 refine cond_yes (decide_eq_true (by assumption)) ?_
    exact ⟨rfl, H.keeps⟩
  by_cases h2 : (20 : Int) < m
  · rw [decide_eq_true (Or.inr (by omega))]
    refine len_sl Try.underlying111 ?_
    iterate 2 refine cond_no (decide_eq_false (by assumption)) ?_
    refine len_sl Try.underlying32 ?_
    iterate 2 refine cond_no (decide_eq_false (by assumption)) ?_
    refine ⟨congrArg Value.bool ?_, H.keeps⟩
    exact decide_eq_true (by omega)
  rw [decide_eq_false (by omega)]
  refine len_sl Try.underlying111 ?_
  iterate 2 refine cond_no (decide_eq_false (by assumption)) ?_
  refine len_sl Try.underlying32 ?_
  iterate 2 refine cond_no (decide_eq_false (by assumption)) ?_
  refine ⟨congrArg Value.bool ?_, H.keeps⟩
  exact decide_eq_false (by omega)
theorem agg111 : aggT Try.prog 111 = some false := by kernel_rfl
/-- May sets be asked for in an order? -/
def MayS (l : List Nat) (ks : List Int) : Prop := l.length ≤ 4 ∧ OrdI ks ∧ ∀ s ∈ l, lessN s (allN ks.length) = 0
instance (l : List Nat) (ks : List Int) : Decidable (MayS l ks) := inferInstanceAs (Decidable (_ ∧ _ ∧ _))
theorem ent98 : enters Try.prog 98 = true := by kernel_rfl
theorem c98 (l : List Nat) (ks : List Int) (A B : Option Addr) (c d : Nat) (w : World) (hl : l.length ≤ 9223372036854775807) (hz : ∀ s ∈ l, s < 2 ^ 256) (hk : ks.length ≤ 9223372036854775807)
    (hA : Sl w (.slice A l.length c) 4 l.length (flat encZ l)) (hB : Sl w (.slice B ks.length d) 1 ks.length (intsI ks)) :
    Fun Try.prog 98 [.slice A l.length c, .slice B ks.length d] w fun v w' => v = .bool (decide (MayS l ks)) ∧ Same w w' := by
  refine fun_of_W (N := 28) Try.func98 ent98 rfl rfl rfl (by simp) ?_
  have H := Hp.start0 w
  refine cut_rule (γ := Unit) _ rfl (fun _ => []) (fun _ w' => Hp w (fun _ => False) w' [] []) ⟨(), trivial, H⟩ ?_
  clear H
  rintro ⟨⟩ u w0 H
  replace H : Hp _ _ _ _ _ := H
  refine cut_rule (γ := Unit) _ rfl (fun _ => []) (fun _ w' => (l.length ≤ 4 ∧ OrdI ks) ∧ Hp w (fun _ => False) w' [] []) ?_ ?_
  · by_cases h1 : (4 : Int) < l.length
    · rw [decide_eq_false (fun h : MayS l ks => by have := h.1; omega)]
      refine len_sl Try.underlying111 ?_
      iterate 4 refine cond_yes (decide_eq_true (by assumption)) ?_
      refine cond_yes rfl ?_
      exact ⟨rfl, H.keeps⟩
    have hc := fun w1 hs => c101 ks B d w1 hk hs
    by_cases h2 : OrdI ks
    · rw [(ordB_iff ks).2 h2] at hc
      refine len_sl Try.underlying111 ?_
      iterate 2 refine cond_no (decide_eq_false (by assumption)) ?_
      refine call_fn (hc _ (hB.same H.keeps)) ?_
      rintro _ w6 ⟨rfl, hk⟩
      replace H := H.same hk
      clear hk
      iterate 2 refine cond_no (decide_eq_false (by assumption)) ?_
      refine cond_no rfl ?_
      exact ⟨(), trivial, ⟨by omega, h2⟩, H⟩
    · have hb : orderB ks = false := by rw [Bool.eq_false_iff]; exact fun h => h2 ((ordB_iff ks).1 h)
      rw [hb] at hc
      rw [decide_eq_false (fun h : MayS l ks => h2 h.2.1)]
      refine len_sl Try.underlying111 ?_
      iterate 2 refine cond_no (decide_eq_false (by assumption)) ?_
      refine call_fn (hc _ (hB.same H.keeps)) ?_
      rintro _ w6 ⟨rfl, hk⟩
      replace H := H.same hk
      clear hk
      iterate 2 refine cond_no (decide_eq_false (by assumption)) ?_
      refine cond_yes rfl ?_
      exact ⟨rfl, H.keeps⟩
  clear H
  rintro ⟨⟩ u w1 ⟨⟨h4, hord⟩, H⟩
  replace H : Hp _ _ _ _ _ := H
  refine cut_rule (γ := Unit) _ rfl (fun _ => []) (fun _ w' => (∀ s ∈ l, lessN s (allN ks.length) = 0) ∧ Hp w (fun _ => False) w' [] []) ?_ ?_
  · refine loop_rule (γ := Nat) _ rfl (fun i => [(5, .int .i64 (i : Int))]) (fun i w' => (i ≤ l.length ∧ ∀ s ∈ l.take i, lessN s (allN ks.length) = 0) ∧ Hp w (fun _ => False) w' [] []) (fun i => l.length - i) 0 ⟨rfl, trivial⟩ ⟨⟨Nat.zero_le _, by simp⟩, H⟩ ?_
    clear H
    rintro i u w2 ⟨⟨hi, hall⟩, H⟩
    replace H : Hp _ _ _ _ _ := H
    refine len_sl Try.underlying111 ?_
    refine cond_dec (fun h7 => ?_) (fun h7 => ?_)
    · obtain ⟨s, hs⟩ : ∃ s, l[i]? = some s := ⟨_, List.getElem?_eq_getElem (by omega)⟩
      obtain ⟨g2, o2, rfl⟩ := hA.A (by omega)
      have htk : l.take (i + 1) = l.take i ++ [s] := by rw [List.take_add_one, hs]; rfl
      have hsm := List.mem_of_getElem? hs
      have hc := fun w1 => c109' s ks.length (hz s hsm) hord.le w1
      refine idxAddr_sl Try.underlying111 (s := 4) size24 i rfl (by omega) (o' := o2 + i * 4) (by omega) ?_
      refine Sl.loadAgg H hA encZ_length agg24 size24 i rfl hs ?_
      refine len_sl Try.underlying32 ?_
      by_cases hz0 : lessN s (allN ks.length) = 0
      · rw [show (lessN s (allN ks.length) == 0) = true by simpa using hz0] at hc
        refine call_fn (hc _) ?_
        rintro _ w3 ⟨rfl, hk⟩
        replace H := H.same hk
        clear hk
        refine cond_no rfl ?_
        refine ⟨i + 1, by show l.length - (i + 1) < l.length - i; omega, ⟨up (by omega), trivial⟩, ⟨by show i + 1 ≤ l.length; omega, fun s' hs' => ?_⟩, H⟩
        rw [htk] at hs'
        rcases List.mem_append.1 hs' with h | h
        · exact hall s' h
        · rw [List.mem_singleton] at h; subst h; exact hz0
      · rw [show (lessN s (allN ks.length) == 0) = false by simpa using hz0] at hc
        rw [decide_eq_false (fun h : MayS l ks => hz0 (h.2.2 s hsm))]
        refine call_fn (hc _) ?_
        rintro _ w3 ⟨rfl, hk⟩
        replace H := H.same hk
        clear hk
        refine cond_yes rfl ?_
        exact ⟨rfl, H.keeps⟩
    · rw [List.take_of_length_le (by omega)] at hall
      exact ⟨(), trivial, hall, H⟩
  clear H
  rintro ⟨⟩ u w2 ⟨hall, H⟩
  replace H : Hp _ _ _ _ _ := H
  rw [decide_eq_true (show MayS l ks from ⟨h4, hord, hall⟩)]
  exact ⟨rfl, H.keeps⟩
theorem ent102 : enters Try.prog 102 = true := by kernel_rfl
theorem c102 (a b : List Int) (A B : Option Addr) (c d : Nat) (w : World) (ha : a.length ≤ 1000000) (hb : b.length ≤ 1000000) (hA : Sl w (.slice A a.length c) 1 a.length (intsI a)) (hB : Sl w (.slice B b.length d) 1 b.length (intsI b)) :
    Fun Try.prog 102 [.slice A a.length c, .slice B b.length d] w fun v w' => v = .bool (decide (a = b)) ∧ Same w w' := by
  refine fun_of_W (N := 26) Try.func102 ent102 rfl rfl rfl (by simp) ?_
  have H := Hp.start0 w
  refine cut_rule (γ := Unit) _ rfl (fun _ => []) (fun _ w' => Hp w (fun _ => False) w' [] []) ⟨(), trivial, H⟩ ?_
  clear H
  rintro ⟨⟩ u w0 H
  replace H : Hp _ _ _ _ _ := H
  refine cut_rule (γ := Unit) _ rfl (fun _ => []) (fun _ w' => a.length = b.length ∧ Hp w (fun _ => False) w' [] []) ?_ ?_
  · refine len_sl Try.underlying32 ?_
    refine len_sl Try.underlying32 ?_
    refine cond_bne (fun hne => ?_) (fun he => ?_)
    · rw [decide_eq_false (fun h : a = b => hne (by rw [h]))]
      exact ⟨rfl, H.keeps⟩
    · exact ⟨(), trivial, by omega, H⟩
  clear H
  rintro ⟨⟩ u w1 ⟨hlen, H⟩
  replace H : Hp _ _ _ _ _ := H
  refine cut_rule (γ := Unit) _ rfl (fun _ => []) (fun _ w' => a = b ∧ Hp w (fun _ => False) w' [] []) ?_ ?_
  · refine loop_rule (γ := Nat) _ rfl (fun i => [(5, .int .i64 (i : Int))]) (fun i w' => (i ≤ a.length ∧ a.take i = b.take i) ∧ Hp w (fun _ => False) w' [] []) (fun i => a.length - i) 0 ⟨rfl, trivial⟩ ⟨⟨Nat.zero_le _, rfl⟩, H⟩ ?_
    clear H
    rintro i u w2 ⟨⟨hi, heq⟩, H⟩
    replace H : Hp _ _ _ _ _ := H
    refine len_sl Try.underlying32 ?_
    refine cond_dec (fun h7 => ?_) (fun h7 => ?_)
    · obtain ⟨x, hx⟩ : ∃ x, a[i]? = some x := ⟨_, List.getElem?_eq_getElem (by omega)⟩
      obtain ⟨y, hy⟩ : ∃ y, b[i]? = some y := ⟨_, List.getElem?_eq_getElem (by omega)⟩
      obtain ⟨g2, o2, rfl⟩ := hA.A (by omega)
      obtain ⟨g3, o3, rfl⟩ := hB.A (by omega)
      have hgx : (intsI a)[i]? = some (.int .i64 x) := by rw [intsI, List.getElem?_map, hx]; rfl
      have hgy : (intsI b)[i]? = some (.int .i64 y) := by rw [intsI, List.getElem?_map, hy]; rfl
      refine H.draw fol (by kernel_rfl) ?_
      clear H
      intro w3 H
      refine quiet _ (fun w H => idxAddr_sl Try.underlying32 (s := 1) size3 i rfl (by omega) (o' := o2 + i) (by omega) ⟨rfl, rfl⟩) ?_
      refine quiet _ (fun w H => H.loadSl (i := i) hA agg3 _ rfl hgx ⟨rfl, rfl⟩) ?_
      refine quiet _ (fun w H => idxAddr_sl Try.underlying32 (s := 1) size3 i rfl (by omega) (o' := o3 + i) (by omega) ⟨rfl, rfl⟩) ?_
      refine quiet _ (fun w H => H.loadSl (i := i) hB agg3 _ rfl hgy ⟨rfl, rfl⟩) ?_
      refine cond_bne (fun hne => ?_) (fun he => ?_)
      · rw [decide_eq_false (fun h : a = b => hne (by rw [h, hy] at hx; injection hx with hx; exact hx.symm))]
        exact ⟨rfl, H.keeps⟩
      · exact ⟨i + 1, by show a.length - (i + 1) < a.length - i; omega, ⟨up (by omega), trivial⟩, ⟨by show i + 1 ≤ a.length; omega, by rw [List.take_add_one, List.take_add_one, hx, hy, heq, he]⟩, H⟩
    · rw [List.take_of_length_le (by omega), List.take_of_length_le (by omega)] at heq
      exact ⟨(), trivial, heq, H⟩
  clear H
  rintro ⟨⟩ u w2 ⟨heq, H⟩
  replace H : Hp _ _ _ _ _ := H
  rw [decide_eq_true heq]
  exact ⟨rfl, H.keeps⟩
theorem ent96 : enters Try.prog 96 = true := by kernel_rfl
def iotaC (i k : Nat) : List Value := (List.range k).map fun j : Nat => .int .i64 (if j < i then (j : Int) else 0)
theorem iotaC_zero (k : Nat) : iotaC 0 k = List.replicate k (.int .i64 0) := by
  unfold iotaC
  refine List.eq_replicate_iff.2 ⟨by simp, fun v hv => ?_⟩
  obtain ⟨j, _, rfl⟩ := List.mem_map.1 hv
  rw [if_neg (by omega)]
theorem iotaC_full (k : Nat) : iotaC k k = intsI (iotaI k) := by
  unfold iotaC intsI iotaI
  rw [List.map_map]
  refine List.map_congr_left fun j hj => ?_
  rw [if_pos (List.mem_range.1 hj)]; rfl
theorem iotaC_step (i k : Nat) : (iotaC i k).set i (.int .i64 (i : Int)) = iotaC (i + 1) k := by
  refine List.ext_getElem? fun j => ?_
  unfold iotaC
  rw [List.getElem?_set, List.getElem?_map, List.getElem?_map, List.length_map, List.length_range]
  by_cases hj : j < k
  · rw [List.getElem?_range hj]
    by_cases h : i = j
    · subst h; simp [hj]
    · rw [if_neg h]
      simp only [Option.map_some]
      congr 2
      by_cases h2 : j < i
      · rw [if_pos h2, if_pos (by omega)]
      · rw [if_neg h2, if_neg (by omega)]
  · rw [List.getElem?_eq_none (by simpa using hj)]
    simp; omega
theorem madeInt (n : Nat) : (madeCells (Value.int .i64 0).cells (n * 1)).toList = List.replicate n (.int .i64 0) := by
  rw [Nat.mul_one]; exact toList_madeCells_one _ _
theorem c96 (n : Int) (w : World) : Fun Try.prog 96 [.int .i64 n] w fun v w' => ((n < 0 ∨ 8 < n) ∧ v = .slice none 0 0 ∧ Same w w') ∨ (∃ k : Nat, n = k ∧ k ≤ 8 ∧ ∃ g, v = .slice (some ⟨g, 0, none⟩) k k ∧ NewR w w' (own 3 1 (.slice (some ⟨g, 0, none⟩) k k) k (intsI (iotaI k)))) := by
  refine fun_of_W (N := 23) Try.func96 ent96 rfl rfl rfl (by simp) ?_
  have H := Hp.start0 w
  refine cut_rule (γ := Unit) _ rfl (fun _ => []) (fun _ w' => Hp w (fun _ => False) w' [] []) ⟨(), trivial, H⟩ ?_
  clear H
  rintro ⟨⟩ u w0 H
  replace H : Hp _ _ _ _ _ := H
  by_cases h0 : n < 0
  · iterate 3 refine cond_yes (decide_eq_true (by assumption)) ?_
    refine cond_yes rfl ?_
    exact .inl ⟨.inl h0, rfl, H.keeps⟩
  by_cases h8 : 8 < n
  · iterate 3 refine cond_no (decide_eq_false (by assumption)) ?_
    refine cond_yes (decide_eq_true (by assumption)) ?_
    exact .inl ⟨.inr h8, rfl, H.keeps⟩
  obtain ⟨k, rfl⟩ : ∃ k : Nat, n = k := ⟨n.toNat, by omega⟩
  refine cut_rule (γ := Unit) _ rfl (fun _ => []) (fun _ w' => Hp w (fun _ => False) w' [] []) ?_ ?_
  · iterate 3 refine cond_no rfl ?_
    refine cond_no (decide_eq_false (by assumption)) ?_
    exact ⟨(), trivial, H⟩
  clear H
  rintro ⟨⟩ u w1 H
  replace H : Hp _ _ _ _ _ := H
  refine cut_rule (γ := Nat) _ rfl (fun g => [(3, .slice (some ⟨g, 0, none⟩) k k)]) (fun g w' => Hp w (fun _ => False) w' [own 3 1 (.slice (some ⟨g, 0, none⟩) k k) k (iotaC 0 k)] []) ?_ ?_
  · refine H.make T32 k rfl rfl (by omega) (by omega) ?_
    clear H
    intro g w2 H
    rw [madeInt, ← iotaC_zero] at H
    exact ⟨g, ⟨rfl, trivial⟩, H⟩
  clear H
  rintro g u w2 H
  replace H : Hp _ _ _ _ _ := H
  refine cut_rule (γ := Unit) _ rfl (fun _ => []) (fun _ w' => Hp w (fun _ => False) w' [own 3 1 (.slice (some ⟨g, 0, none⟩) k k) k (iotaC k k)] []) ?_ ?_
  · refine loop_rule (γ := Nat) _ rfl (fun i => [(14, .int .i64 (i : Int))]) (fun i w' => i ≤ k ∧ Hp w (fun _ => False) w' [own 3 1 (.slice (some ⟨g, 0, none⟩) k k) k (iotaC i k)] []) (fun i => k - i) 0 ⟨rfl, trivial⟩ ⟨Nat.zero_le _, H⟩ ?_
    clear H
    rintro i u w3 ⟨hi, H⟩
    replace H : Hp _ _ _ _ _ := H
    refine cond_dec (fun h7 => ?_) (fun h7 => ?_)
    · refine cut_rule (γ := Unit) _ rfl (fun _ => []) (fun _ w' => Hp w (fun _ => False) w' [own 3 1 (.slice (some ⟨g, 0, none⟩) k k) k (iotaC (i + 1) k)] []) ?_ ?_
      · refine idxAddr_sl Try.underlying32 (s := 1) size3 i rfl (by omega) (o' := i) (by omega) ?_
        refine H.storeOwn 0 rfl size3 (by unfold iotaC; rw [List.length_map, List.length_range]; omega) rfl ?_
        clear H
        intro w4 H
        rw [iotaC_step] at H
        exact ⟨(), trivial, H⟩
      · clear H
        rintro ⟨⟩ u w4 H
        exact ⟨i + 1, by show k - (i + 1) < k - i; omega, ⟨up (by omega), trivial⟩, by show i + 1 ≤ k; omega, H⟩
    · obtain rfl : i = k := by omega
      exact ⟨(), trivial, H⟩
  clear H
  rintro ⟨⟩ u w3 H
  replace H : Hp _ _ _ _ _ := H
  rw [iotaC_full] at H
  exact .inr ⟨k, rfl, by omega, g, rfl, H.out⟩
end Go.Proofs.Ytjebpngdinbckaa
end

section
/- Orders of inputs: Size, the program's and the reference's. -/
namespace Go.Proofs.Ytjebpngdinbckaa
open Go.Dk
attribute [local irreducible] IntKind.wrap
theorem T111 : SlT Try.prog 111 24 (sv 0) 4 32 := ⟨Try.underlying111, by kernel_rfl, rfl, by decide⟩
theorem blkS_Sl {w : World} {g : Nat} {t : TypeId} {cs : Array Value} {n sz : Nat} (h : (blk g t cs).ok w) (hn : cs.size = n * sz) (hm : n ≤ maxLen) : Sl w (.slice (some ⟨g, 0, none⟩) n n) sz n cs.toList := by
  have h2 : (own t sz (.slice (some ⟨g, 0, none⟩) n n) n cs.toList).ok w := ⟨by simpa using hn, .inr ⟨g, n, cs, rfl, Nat.zero_le _, h, Nat.le_refl _, hm, hn, by rw [← hn, ← Array.length_toList]; exact List.take_length⟩⟩
  exact own_Sl h2

def sumTo (l : List Nat) (o : List Nat) (i : Nat) : Nat := ((l.take i).map (sizeS o)).sum
theorem sumTo_succ {l : List Nat} {o : List Nat} {i s : Nat} (h : l[i]? = some s) : sumTo l o (i + 1) = sumTo l o i + sizeS o s := by
  unfold sumTo
  rw [List.take_add_one, h, List.map_append, List.sum_append]; simp
theorem sizeS_le {o : List Nat} (hn : o.length ≤ 8) (s : Nat) : sizeS o s ≤ 256 := Nat.le_trans (sizeTo_le o s _) (pow_le_256 hn)
theorem sumTo_le {l : List Nat} {o : List Nat} (hn : o.length ≤ 8) : ∀ i, sumTo l o i ≤ 256 * i
  | 0 => by simp [sumTo]
  | i + 1 => by
    have := sumTo_le (l := l) hn i
    cases h : l[i]? with
    | none => unfold sumTo at *; rw [List.take_add_one, h]; simp only [Option.toList_none, List.append_nil]; omega
    | some s => rw [sumTo_succ h]; have := sizeS_le hn s; omega
theorem sumTo_all (l : List Nat) (ks : List Int) : sumTo l (natsI ks) l.length = sizesS l ks := by unfold sumTo sizesS; rw [List.take_length]
theorem ent97 : enters Try.prog 97 = true := by kernel_rfl
theorem c97 (l : List Nat) (ks : List Int) (A B : Option Addr) (c d : Nat) (w : World) (hl : l.length ≤ 9223372036854775807) (hz : ∀ s ∈ l, s < 2 ^ 256) (hk : ks.length ≤ 9223372036854775807)
    (hA : Sl w (.slice A l.length c) 4 l.length (flat encZ l)) (hB : Sl w (.slice B ks.length d) 1 ks.length (intsI ks)) :
    Fun Try.prog 97 [.slice A l.length c, .slice B ks.length d] w fun v w' => v = (if MayS l ks then .tuple #[.int .i64 ((sizesS l ks : Nat) : Int), .int .i64 0] else .tuple #[.int .i64 0, .int .i64 1]) ∧ Same w w' := by
  refine fun_of_W (N := 46) Try.func97 ent97 rfl rfl rfl (by simp) ?_
  have H := Hp.start0 w
  refine cut_rule (γ := Unit) _ rfl (fun _ => []) (fun _ w' => Hp w (fun _ => False) w' [] []) ⟨(), trivial, H⟩ ?_
  clear H
  rintro ⟨⟩ u w0 H
  replace H : Hp _ _ _ _ _ := H
  refine cut_rule (γ := Unit) _ rfl (fun _ => []) (fun _ w' => l.length ≤ 4 ∧ Hp w (fun _ => False) w' [] []) ?_ ?_
  · refine len_sl Try.underlying111 ?_
    refine cond_dec (fun h1 => ?_) (fun h1 => ?_)
    · rw [if_neg (fun h : MayS l ks => by have := h.1; omega)]
      exact ⟨rfl, H.keeps⟩
    · exact ⟨(), trivial, by omega, H⟩
  clear H
  rintro ⟨⟩ u w1 ⟨h4, H⟩
  replace H : Hp _ _ _ _ _ := H
  refine cut_rule (γ := Option (Nat × Nat × Nat × Nat × Option Addr)) _ rfl (fun x => [(6, match x with | none => .pointer none | some (g, _) => .pointer (some ⟨g, 0, none⟩)), (7, .int .i64 (match x with | none => 1 | some _ => 0))])
    (fun x w' => match x with | none => ¬ OrdI ks ∧ Hp w (fun _ => False) w' [] [] | some (g, ga, q, co, B') => OrdI ks ∧ Hp w (fun _ => False) w' [arR ga q (.slice none 0 0) 20000 []] (bdM g ga co B' (natsI ks) ++ [])) ?_ ?_
  · refine call_fn (c113 ks B d 20000 _ hk (hB.same H.keeps)) ?_
    rintro _ w3 (⟨h, rfl, hk⟩ | ⟨hord, _, _, g, ga, q, co, B', rfl, hn⟩)
    · refine ⟨none, ⟨rfl, rfl, trivial⟩, ?_, H.same hk⟩
      rcases h with h | h | h
      · exact h
      · omega
      · omega
    · exact ⟨some (g, ga, q, co, B'), ⟨rfl, rfl, trivial⟩, hord, (H.addNew hn).bdOpen.takeN 1⟩
  clear H
  rintro (_ | ⟨g, ga, q, co, B'⟩) u w2 ⟨hord, H⟩
  · replace H : Hp _ _ _ _ _ := H
    rw [if_neg (fun h : MayS l ks => hord h.2.1)]
    refine cond_yes rfl ?_
    exact ⟨rfl, H.keeps⟩
  replace H : Hp _ _ _ _ _ := H
  have ho : OrdO (natsI ks) := hord.nats
  have ho8 : (natsI ks).length ≤ 8 := ho.le
  have hkl : (natsI ks).length = ks.length := natsI_length ks
  have hA0 : BInv (natsI ks).length [] := BInv.nil _
  have hok0 : ArOk 20000 [] := ok_start (by decide) (by decide)
  refine cut_rule (γ := Unit) _ rfl (fun _ => []) (fun _ w' => Hp w (fun _ => False) w' [arR ga q (.slice none 0 0) 20000 []] (bdM g ga co B' (natsI ks) ++ [])) ?_ ?_
  · refine cond_no rfl ?_
    exact ⟨(), trivial, H⟩
  clear H
  rintro ⟨⟩ u w3 H
  replace H : Hp _ _ _ _ _ := H
  refine cut_rule (γ := Unit) _ rfl (fun _ => [(8, .int .i64 0)]) (fun _ w' => Hp w (fun _ => False) w' [arR ga q (.slice none 0 0) 20000 []] (bdM g ga co B' (natsI ks) ++ [])) ⟨(), ⟨rfl, trivial⟩, H⟩ ?_
  clear H
  rintro ⟨⟩ u w4 H
  replace H : Hp _ _ _ _ _ := H
  refine cut_rule (γ := Unit) _ rfl (fun _ => [(8, .int .i64 ((sizesS l ks : Nat) : Int))]) (fun _ w' => (∀ s ∈ l, lessN s (allN ks.length) = 0) ∧ Hp w (fun _ => False) w' [] []) ?_ ?_
  · refine len_sl Try.underlying111 ?_
    refine loop_rule (γ := Nat × Value × Ar) _ rfl (fun (i, _) => [(26, .int .i64 (i : Int)), (8, .int .i64 ((sumTo l (natsI ks) i : Nat) : Int))])
      (fun (i, sv0, A0) w' => (i ≤ l.length ∧ ArOk 20000 A0 ∧ BInv (natsI ks).length A0 ∧ liveA A0 ≤ 255 * i ∧ ∀ s ∈ l.take i, lessN s (allN ks.length) = 0) ∧ Hp w (fun _ => False) w' [arR ga q sv0 20000 A0] (bdM g ga co B' (natsI ks) ++ [])) (fun (i, _) => l.length - i) (0, .slice none 0 0, []) ⟨rfl, rfl, trivial⟩ ⟨⟨Nat.zero_le _, hok0, hA0, by decide, by simp⟩, H⟩ ?_
    clear H
    rintro ⟨i, sv0, A0⟩ u w5 ⟨⟨hi, hok, hAi, hlive, hall⟩, H⟩
    replace H : Hp _ _ _ _ _ := H
    refine cond_dec (fun h7 => ?_) (fun h7 => ?_)
    · obtain ⟨s, hs⟩ : ∃ s, l[i]? = some s := ⟨_, List.getElem?_eq_getElem (by omega)⟩
      obtain ⟨g2, o2, rfl⟩ := hA.A (by omega)
      have htk : l.take (i + 1) = l.take i ++ [s] := by rw [List.take_add_one, hs]; rfl
      have hsm := List.mem_of_getElem? hs
      have hs2 := hz s hsm
      have hsuc := sumTo_succ (o := natsI ks) hs
      have hsl := sumTo_le (l := l) ho8 i
      have hsz := sizeS_le ho8 s
      refine cut_rule (γ := Value × Ar) _ rfl (fun _ => [(8, .int .i64 ((sumTo l (natsI ks) (i + 1) : Nat) : Int))]) (fun (sv1, A1) w' => (ArOk 20000 A1 ∧ BInv (natsI ks).length A1 ∧ liveA A1 ≤ 255 * (i + 1) ∧ lessN s (allN ks.length) = 0) ∧ Hp w (fun _ => False) w' [arR ga q sv1 20000 A1] (bdM g ga co B' (natsI ks) ++ [])) ?_ ?_
      · refine cut_rule (γ := Nat) _ rfl (fun g10 => [(10, .pointer (some ⟨g10, 0, none⟩))]) (fun g10 w' => Hp w (fun _ => False) w' [arR ga q sv0 20000 A0, blk g10 24 (sc s)] (bdM g ga co B' (natsI ks) ++ [])) ?_ ?_
        · refine idxAddr_sl Try.underlying111 (s := 4) size24 i rfl (by omega) (o' := o2 + i * 4) (by omega) ?_
          refine Sl.loadAgg H hA encZ_length agg24 size24 i rfl hs ?_
          refine H.alloc 24 (cs := sc 0) zero24 sc_zero ?_
          clear H
          intro g10 w6 H
          refine H.storeAll 0 rfl size24 rfl (fun v hv => sc_one s v hv) ?_
          clear H
          intro w7 H
          exact ⟨g10, ⟨rfl, trivial⟩, H.front 1 rfl⟩
        clear H
        rintro g10 u w6 H
        replace H : Hp _ _ _ _ _ := H
        refine cut_rule (γ := Int × Int × Value × Ar) _ rfl (fun (f, e, _) => [(11, .int .i64 f), (12, .int .i64 e)]) (fun (f, e, sv1, A1) w' => (ArOk 20000 A1 ∧ OfR (natsI ks) A1 s f e ∧ liveA A1 ≤ 255 * (i + 1) ∧ BInv (natsI ks).length A1) ∧ Hp w (fun _ => False) w' [arR ga q sv1 20000 A1, blk g10 24 (sc s)] (bdM g ga co B' (natsI ks) ++ [])) ?_ ?_
        · refine H.loadAll 1 rfl agg24 size24 ?_
          refine call_fn (c108 ho ho8 hs2 _ hAi hok H.bdAt') ?_
          rintro _ w7 ⟨A1, sv1, f, e, rfl, hm, hok1, ht⟩
          obtain ⟨hR, hl1, hx, hI⟩ := ofR ho (q := 255 * i) hlive (by omega) hAi hm
          exact ⟨(f, e, sv1, A1), ⟨rfl, rfl, trivial⟩, ⟨hok1, hR, by omega, hI⟩, H.turnBy 0 rfl ht⟩
        clear H
        rintro ⟨f, e, sv1, A1⟩ u w7 ⟨⟨hok1, hR, hlive1, hA1⟩, H⟩
        replace H : Hp _ _ _ _ _ := H
        refine cut_rule (γ := Unit) _ rfl (fun _ => []) (fun _ w' => e = 0 ∧ Hp w (fun _ => False) w' [arR ga q sv1 20000 A1, blk g10 24 (sc s)] (bdM g ga co B' (natsI ks) ++ [])) ?_ ?_
        · refine cond_bne (fun he => ?_) (fun he => ?_)
          · rcases hR with ⟨h1, _, rfl⟩ | ⟨_, h, _⟩
            · rw [hkl] at h1
              rw [if_neg (fun h : MayS l ks => h1 (h.2.2 s hsm))]
              exact ⟨rfl, H.keeps⟩
            · exact absurd h he
          · exact ⟨(), trivial, he, H⟩
        clear H
        rintro ⟨⟩ u w8 ⟨rfl, H⟩
        replace H : Hp _ _ _ _ _ := H
        rcases hR with ⟨_, _, h⟩ | ⟨hz1, _, hrep⟩
        · exact absurd h (by decide)
        · have hfl := id_lt hok1 hrep.there
          have hc1 := c111 (n := (natsI ks).length) (c := co) (B := B') (g := g) (ga := ga) (r := q) (sv0 := sv1) hok1 f (by omega) w8 (H.ro 0 rfl) (H.get 0 rfl)
          rw [reach_size ho hA1 hrep] at hc1
          refine call_fn hc1 ?_
          rintro _ w9 ⟨rfl, hk⟩
          replace H := H.same hk
          clear hk
          rw [hkl] at hz1
          exact ⟨(sv1, A1), ⟨congrArg (Value.int .i64) (by rw [wrap_i64_in (by omega) (by omega)]; omega), trivial⟩, ⟨hok1, hA1, hlive1, hz1⟩, H.takeN 1⟩
      · clear H
        rintro ⟨sv1, A1⟩ u w6 ⟨⟨hok1, hA1, hlive1, hz1⟩, H⟩
        refine ⟨(i + 1, sv1, A1), by show l.length - (i + 1) < l.length - i; omega, ⟨up (by omega), rfl, trivial⟩, ⟨by show i + 1 ≤ l.length; omega, hok1, hA1, hlive1, fun s' hs' => ?_⟩, H⟩
        rw [htk] at hs'
        rcases List.mem_append.1 hs' with h | h
        · exact hall s' h
        · rw [List.mem_singleton] at h; subst h; exact hz1
    · obtain rfl : i = l.length := by omega
      rw [List.take_length] at hall
      rw [← sumTo_all]
      exact ⟨(), ⟨rfl, trivial⟩, hall, (H.takeN 0).weakenRO (by simp)⟩
  clear H
  rintro ⟨⟩ u w5 ⟨hall, H⟩
  replace H : Hp _ _ _ _ _ := H
  rw [if_pos (show MayS l ks from ⟨h4, hord, hall⟩)]
  exact ⟨rfl, H.keeps⟩
theorem ent99 : enters Try.prog 99 = true := by kernel_rfl
theorem c99 (l : List Nat) (ks : List Int) (A B : Option Addr) (c d : Nat) (w : World) (hl : l.length ≤ 1000000) (hord : OrdI ks)
    (hA : Sl w (.slice A l.length c) 4 l.length (flat encZ l)) (hB : Sl w (.slice B ks.length d) 1 ks.length (intsI ks)) :
    Fun Try.prog 99 [.slice A l.length c, .slice B ks.length d] w fun v w' => v = .int .i64 ((sizesS l ks : Nat) : Int) ∧ Same w w' := by
  refine fun_of_W (N := 22) Try.func99 ent99 rfl rfl rfl (by simp) ?_
  have H := Hp.start0 w
  have ho : OrdO (natsI ks) := hord.nats
  have ho8 : (natsI ks).length ≤ 8 := ho.le
  have hkl : (natsI ks).length = ks.length := natsI_length ks
  have hS' := ord_sl hord hB
  refine cut_rule (γ := Unit) _ rfl (fun _ => []) (fun _ w' => Hp w (fun _ => False) w' [] []) ⟨(), trivial, H⟩ ?_
  clear H
  rintro ⟨⟩ u w0 H
  replace H : Hp _ _ _ _ _ := H
  refine cut_rule (γ := Unit) _ rfl (fun _ => [(5, .int .i64 0)]) (fun _ w' => Hp w (fun _ => False) w' [] []) ⟨(), ⟨rfl, trivial⟩, H⟩ ?_
  clear H
  rintro ⟨⟩ u w4 H
  replace H : Hp _ _ _ _ _ := H
  refine cut_rule (γ := Unit) _ rfl (fun _ => [(5, .int .i64 ((sizesS l ks : Nat) : Int))]) (fun _ w' => Hp w (fun _ => False) w' [] []) ?_ ?_
  · refine loop_rule (γ := Nat) _ rfl (fun i => [(6, .int .i64 (i : Int)), (5, .int .i64 ((sumTo l (natsI ks) i : Nat) : Int))]) (fun i w' => i ≤ l.length ∧ Hp w (fun _ => False) w' [] []) (fun i => l.length - i) 0 ⟨rfl, rfl, trivial⟩ ⟨Nat.zero_le _, H⟩ ?_
    clear H
    rintro i u w5 ⟨hi, H⟩
    replace H : Hp _ _ _ _ _ := H
    refine len_sl Try.underlying111 ?_
    refine cond_dec (fun h7 => ?_) (fun h7 => ?_)
    · obtain ⟨s, hs⟩ : ∃ s, l[i]? = some s := ⟨_, List.getElem?_eq_getElem (by omega)⟩
      obtain ⟨g2, o2, rfl⟩ := hA.A (by omega)
      have hsuc := sumTo_succ (o := natsI ks) hs
      have hsl := sumTo_le (l := l) ho8 i
      have hsz := sizeS_le ho8 s
      refine cut_rule (γ := Unit) _ rfl (fun _ => [(5, .int .i64 ((sumTo l (natsI ks) (i + 1) : Nat) : Int))]) (fun _ w' => Hp w (fun _ => False) w' [] []) ?_ ?_
      · have hc := fun w1 h => c112 ho s B d w1 h
        rw [hkl] at hc hS'
        refine idxAddr_sl Try.underlying111 (s := 4) size24 i rfl (by omega) (o' := o2 + i * 4) (by omega) ?_
        refine Sl.loadAgg H hA encZ_length agg24 size24 i rfl hs ?_
        refine call_fn (hc _ (hS'.same H.keeps)) ?_
        rintro _ w9 ⟨rfl, hk⟩
        replace H := H.same hk
        clear hk
        exact ⟨(), ⟨congrArg (Value.int .i64) (by rw [wrap_i64_in (by omega) (by omega)]; omega), trivial⟩, H⟩
      · clear H
        rintro ⟨⟩ u w6 H
        exact ⟨i + 1, by show l.length - (i + 1) < l.length - i; omega, ⟨up (by omega), rfl, trivial⟩, by show i + 1 ≤ l.length; omega, H⟩
    · obtain rfl : i = l.length := by omega
      rw [← sumTo_all]
      exact ⟨(), ⟨rfl, trivial⟩, H⟩
  clear H
  rintro ⟨⟩ u w5 H
  replace H : Hp _ _ _ _ _ := H
  exact ⟨rfl, H.keeps⟩
end Go.Proofs.Ytjebpngdinbckaa
end

import Derived.Test.YtjebpngdinbckaaPart6
/- Lemmas, part 7: what the proof of the row uses. -/
section
/- Decision diagrams: ite. -/
namespace Go.Proofs.Ytjebpngdinbckaa
open Go.Dk
attribute [local irreducible] IntKind.wrap

theorem min3_by {a b c m : Int} {ty : TypeId} {cst : Array Bool} {w : World} {kk : Value → World → Prop} (hm : (if c < (if b < a then b else a) then c else (if b < a then b else a)) = m) (h : kk (.int .i64 m) w) : builtinK Try.prog .min #[3, 3, 3] ty cst [.int .i64 a, .int .i64 b, .int .i64 c] w kk := by
  unfold builtinK
  refine ⟨_, w, ?_, h⟩
  show (do pure (.value (← Builtin.min_ #[3, 3, 3] ty #[.int .i64 a, .int .i64 b, .int .i64 c])) : Sem Next).run Try.prog w = _
  simp [Builtin.min_, Builtin.min2]
  exact hm
theorem idx_arr220 {a b c x : Int} {i : Nat} (hi : i < 3) (hx : (k3c a b c)[i]? = some (.int .i64 x)) {w : World} {kk : Value → World → Prop} (h : kk (.int .i64 x) w) : idxK Try.prog 220 (k3 a b c) (.int .i64 (i : Int)) w kk := by
  unfold idxK
  refine ⟨_, w, ?_, h⟩
  simp only [k3, Instr.index, asIntOf, pure_bind, Sem.run_bind, run_underlying Try.underlying220, Result.andThen_ok]
  rw [if_pos ⟨by omega, by omega⟩]
  simp only [Sem.run_bind, Go.Dk.run_sizeOf size3, Result.andThen_ok, Int.toNat_natCast, Nat.mul_one]
  exact run_part agg3 hx w
/-- What was made, and what is remembered of it. -/
def itR (ga r rm : Nat) (sv0 : Value) (room : Int) (A : Ar) (l : List (I3 × Int)) : Res := seps [arR ga r sv0 room A, mapR ka3 (fun k : Int => Value.int .i64 k) rm l]
structure ItAt (w : World) (g ga r rm co : Nat) (B : Option Addr) (o : List Nat) (sv0 : Value) (room : Int) (A : Ar) (l : List (I3 × Int)) : Prop where
  head : ∀ s ∈ bdM g ga co B o, s.ok w
  lt : ∀ s ∈ bdM g ga co B o, ∀ x, s.foot x → x < w.heap.size
  ok : (itR ga r rm sv0 room A l).ok w
  dis : ∀ s ∈ bdM g ga co B o, ∀ x, s.foot x → ¬ (itR ga r rm sv0 room A l).foot x
theorem ItAt.start {w : World} {g ga r rm co : Nat} {B : Option Addr} {o : List Nat} {sv0 : Value} {room : Int} {A : Ar} {l : List (I3 × Int)} (h : ItAt w g ga r rm co B o sv0 room A l) :
    Hp w (itR ga r rm sv0 room A l).foot w [arR ga r sv0 room A, mapR ka3 (fun k : Int => Value.int .i64 k) rm l] (bdM g ga co B o) :=
  (Hp.own1M (M := bdM g ga co B o) h.ok (fun x ⟨q, hq, hx⟩ => h.ok.2.1 q hq x hx) h.head h.lt h.dis).split
theorem itAt_of {w0 w : World} {F : Nat → Prop} {L : List Res} {g ga r rm co : Nat} {B : Option Addr} {o : List Nat} {sv0 : Value} {room : Int} {A : Ar} {l : List (I3 × Int)}
    (H : Hp w0 F w (itR ga r rm sv0 room A l :: L) (bdM g ga co B o)) : ItAt w g ga r rm co B o sv0 room A l :=
  ⟨H.rok, H.rlt, H.get 0 rfl, fun s hs x hx hx' => H.rdis s hs _ (.head _) x hx hx'⟩
theorem itJoin {w0 w : World} {F : Nat → Prop} {L M : List Res} {ga r rm : Nat} {sv0 : Value} {room : Int} {A : Ar} {l : List (I3 × Int)}
    (H : Hp w0 F w (arR ga r sv0 room A :: mapR ka3 (fun k : Int => Value.int .i64 k) rm l :: L) M) : Hp w0 F w (itR ga r rm sv0 room A l :: L) M :=
  Hp.join (Ls := [arR ga r sv0 room A, mapR ka3 (fun k : Int => Value.int .i64 k) rm l]) H
theorem lvlB_ext {n : Nat} {A A' : Ar} (hx : Ext A A') {id : Int} (h : 0 ≤ lvlA A id) : lvlB n A' id = lvlB n A id := by
  unfold lvlB
  split
  · rfl
  · exact hx.lvl h
theorem ext_nodeA (room : Int) (A : Ar) (k : Nat) (lo hi : Int) : Ext A (nodeA room A k lo hi).1 := by
  unfold nodeA
  split
  · exact Ext.refl _
  · unfold mkA
    repeat' split
    all_goals first | exact Ext.refl _ | exact ext_put
/-- What ite is to answer. -/
def IteC (o : List Nat) (g ga r rm co : Nat) (B : Option Addr) (room : Int) (k : Nat) : Prop := ∀ (f p q : Int) (A : Ar) (l : List (I3 × Int)) (sv0 : Value) (w : World), BInv o.length A → ArOk room A → MemoOk A l →
  0 ≤ lvlA A f → 0 ≤ lvlA A p → 0 ≤ lvlA A q → (o.length : Int) - k ≤ lvlB o.length A f → (o.length : Int) - k ≤ lvlB o.length A p → (o.length : Int) - k ≤ lvlB o.length A q → ItAt w g ga r rm co B o sv0 room A l →
  Fun Try.prog 187 [.pointer (some ⟨g, 0, none⟩), k3 f p q, .map (some rm)] w fun v w' => ∃ A' sv' l' id e, v = .tuple #[.int .i64 id, .int .i64 e] ∧ Made o.length room A A' (iteF A f p q) id e ∧ ArOk room A' ∧ MemoOk A' l' ∧
    Turn w w' (itR ga r rm sv0 room A l) (itR ga r rm sv' room A' l')
theorem ent187 : enters Try.prog 187 = true := by kernel_rfl
theorem c187_step {o : List Nat} (hn : o.length ≤ 8) {g ga r rm co : Nat} {B : Option Addr} {room : Int} {k : Nat} (IH : ∀ k', k' + 1 = k → IteC o g ga r rm co B room k') : IteC o g ga r rm co B room k := by
  intro f p q A l sv0 w hA hok hmem hf hp hq lf lp lq hit
  refine fun_of_W (N := 111) Try.func187 ent187 rfl rfl rfl (by simp) ?_
  have H := hit.start
  refine cut_rule (γ := Nat) _ rfl (fun g4 => [(4, .pointer (some ⟨g4, 0, none⟩))]) (fun g4 w' => Hp w (itR ga r rm sv0 room A l).foot w' [arR ga r sv0 room A, mapR ka3 (fun k : Int => Value.int .i64 k) rm l, blk g4 220 (k3c f p q)] (bdM g ga co B o)) ?_ ?_
  · refine H.box 220 (k3 f p q) (cs := k3c f p q) rfl ?_
    clear H
    intro g4 w1 H
    exact ⟨g4, ⟨rfl, trivial⟩, (H.front 2 rfl).front 2 rfl⟩
  clear H
  rintro g4 u w1 H
  replace H : Hp _ _ _ _ _ := H
  refine cut_rule (γ := Unit) _ rfl (fun _ => []) (fun _ w' => (f ≠ 0 ∧ f ≠ 1 ∧ p ≠ q) ∧ Hp w (itR ga r rm sv0 room A l).foot w' [arR ga r sv0 room A, mapR ka3 (fun k : Int => Value.int .i64 k) rm l, blk g4 220 (k3c f p q)] (bdM g ga co B o)) ?_ ?_
  · by_cases h0 : f = 0
    · refine idxAddr_arr Try.underlying220 size3 0 rfl (by omega) (o' := 0) rfl ?_
      refine H.load 2 rfl agg3 rfl ?_
      refine cond_yes (beq_iff_eq.2 (by assumption)) ?_
      refine idxAddr_arr Try.underlying220 size3 2 rfl (by omega) (o' := 2) rfl ?_
      refine H.load 2 rfl agg3 rfl ?_
      exact ⟨A, sv0, l, q, 0, rfl, Made.refl hA (h0 ▸ ite_zero hq), hok, hmem, (itJoin H).outTurn⟩
    by_cases h1 : f = 1
    · refine idxAddr_arr Try.underlying220 size3 0 rfl (by omega) (o' := 0) rfl ?_
      refine H.load 2 rfl agg3 rfl ?_
      refine cond_no (beq_eq_false_iff_ne.2 (by assumption)) ?_
      refine idxAddr_arr Try.underlying220 size3 0 rfl (by omega) (o' := 0) rfl ?_
      refine H.load 2 rfl agg3 rfl ?_
      iterate 6 refine cond_yes (beq_iff_eq.2 (by assumption)) ?_
      refine cond_yes rfl ?_
      refine idxAddr_arr Try.underlying220 size3 1 rfl (by omega) (o' := 1) rfl ?_
      refine H.load 2 rfl agg3 rfl ?_
      exact ⟨A, sv0, l, p, 0, rfl, Made.refl hA (h1 ▸ ite_one hp), hok, hmem, (itJoin H).outTurn⟩
    by_cases h2 : p = q
    · refine idxAddr_arr Try.underlying220 size3 0 rfl (by omega) (o' := 0) rfl ?_
      refine H.load 2 rfl agg3 rfl ?_
      refine cond_no (beq_eq_false_iff_ne.2 (by assumption)) ?_
      refine idxAddr_arr Try.underlying220 size3 0 rfl (by omega) (o' := 0) rfl ?_
      refine H.load 2 rfl agg3 rfl ?_
      refine cond_no (beq_eq_false_iff_ne.2 (by assumption)) ?_
      refine idxAddr_arr Try.underlying220 size3 1 rfl (by omega) (o' := 1) rfl ?_
      refine cond_no (beq_eq_false_iff_ne.2 (by assumption)) ?_
      refine H.load 2 rfl agg3 rfl ?_
      refine cond_no (beq_eq_false_iff_ne.2 (by assumption)) ?_
      refine idxAddr_arr Try.underlying220 size3 2 rfl (by omega) (o' := 2) rfl ?_
      refine cond_no (beq_eq_false_iff_ne.2 (by assumption)) ?_
      refine H.load 2 rfl agg3 rfl ?_
      iterate 2 refine cond_no (beq_eq_false_iff_ne.2 (by assumption)) ?_
      refine cond_yes (beq_iff_eq.2 (by assumption)) ?_
      refine idxAddr_arr Try.underlying220 size3 1 rfl (by omega) (o' := 1) rfl ?_
      refine H.load 2 rfl agg3 rfl ?_
      exact ⟨A, sv0, l, p, 0, rfl, Made.refl hA (h2 ▸ ite_same hp), hok, hmem, (itJoin H).outTurn⟩
    refine idxAddr_arr Try.underlying220 size3 0 rfl (by omega) (o' := 0) rfl ?_
    refine H.load 2 rfl agg3 rfl ?_
    refine cond_no (beq_eq_false_iff_ne.2 (by assumption)) ?_
    refine idxAddr_arr Try.underlying220 size3 0 rfl (by omega) (o' := 0) rfl ?_
    refine H.load 2 rfl agg3 rfl ?_
    refine cond_no (beq_eq_false_iff_ne.2 (by assumption)) ?_
    refine idxAddr_arr Try.underlying220 size3 1 rfl (by omega) (o' := 1) rfl ?_
    refine cond_no (beq_eq_false_iff_ne.2 (by assumption)) ?_
    refine H.load 2 rfl agg3 rfl ?_
    refine cond_no (beq_eq_false_iff_ne.2 (by assumption)) ?_
    refine idxAddr_arr Try.underlying220 size3 2 rfl (by omega) (o' := 2) rfl ?_
    refine cond_no (beq_eq_false_iff_ne.2 (by assumption)) ?_
    refine H.load 2 rfl agg3 rfl ?_
    iterate 3 refine cond_no (beq_eq_false_iff_ne.2 (by assumption)) ?_
    exact ⟨(), trivial, ⟨h0, h1, h2⟩, H⟩
  clear H
  rintro ⟨⟩ u w2 ⟨⟨h0, h1, h2⟩, H⟩
  replace H : Hp _ _ _ _ _ := H
  cases hg : aget l (f, p, q) with
  | some id =>
    refine H.loadAll 2 rfl agg220 size220 ?_
    refine lookupOk_at (H.get 1 rfl) W221 (f, p, q) (fun b hb => ?_) (fun hb => absurd (hg.symm.trans hb) (by simp))
    refine cond_yes rfl ?_
    exact ⟨A, sv0, l, b, 0, rfl, Made.refl hA (hmem f p q b hb).2, hok, hmem, (itJoin H).outTurn⟩
  | none =>
    refine cut_rule (γ := Unit) _ rfl (fun _ => []) (fun _ w' => Hp w (itR ga r rm sv0 room A l).foot w' [arR ga r sv0 room A, mapR ka3 (fun k : Int => Value.int .i64 k) rm l, blk g4 220 (k3c f p q)] (bdM g ga co B o)) ?_ ?_
    · refine H.loadAll 2 rfl agg220 size220 ?_
      refine lookupOk_at (H.get 1 rfl) W221 (f, p, q) (fun b hb => absurd (hg.symm.trans hb) (by simp)) (fun hb => ?_)
      refine cond_no rfl ?_
      exact ⟨(), trivial, H⟩
    clear H
    rintro ⟨⟩ u w3 H
    replace H : Hp _ _ _ _ _ := H
    have hfl := id_lt hok hf
    have hpl := id_lt hok hp
    have hql := id_lt hok hq
    have hlev : ∃ level : Nat, (if lvlB o.length A q < (if lvlB o.length A p < lvlB o.length A f then lvlB o.length A p else lvlB o.length A f) then lvlB o.length A q else (if lvlB o.length A p < lvlB o.length A f then lvlB o.length A p else lvlB o.length A f)) = (level : Int) ∧
        level < o.length ∧ (level : Int) ≤ lvlB o.length A f ∧ (level : Int) ≤ lvlB o.length A p ∧ (level : Int) ≤ lvlB o.length A q ∧ o.length ≤ level + k := by
      have b1 := (lvlB_there (n := o.length)).2 hf
      have b2 := (lvlB_there (n := o.length)).2 hp
      have b3 := (lvlB_there (n := o.length)).2 hq
      have b4 : lvlB o.length A f < o.length := by
        cases hd : ndA A f with
        | none => exact absurd (nd_none hd hf) (by omega)
        | some d =>
          obtain ⟨i, _, hs⟩ := nd_place hd
          have := hA.lt i d hs
          rw [lvlB_nd hd]; omega
      generalize lvlB o.length A f = x at *
      generalize lvlB o.length A p = y at *
      generalize lvlB o.length A q = z at *
      have hm : (if y < x then y else x) ≤ x ∧ (if y < x then y else x) ≤ y ∧ ((if y < x then y else x) = x ∨ (if y < x then y else x) = y) := by split <;> omega
      generalize (if y < x then y else x) = m at hm
      refine ⟨(if z < m then z else m).toNat, ?_⟩
      split <;> omega
    obtain ⟨level, hlv, hlt, hlf, hlp, hlq, hlk⟩ := hlev
    refine cut_rule (γ := Unit) _ rfl (fun _ => [(10, .int .i64 (level : Int))]) (fun _ w' => Hp w (itR ga r rm sv0 room A l).foot w' [arR ga r sv0 room A, mapR ka3 (fun k : Int => Value.int .i64 k) rm l, blk g4 220 (k3c f p q)] (bdM g ga co B o)) ?_ ?_
    · refine H.draw fol (by kernel_rfl) ?_
      clear H
      intro w4 H
      refine quiet _ (fun w H => idxAddr_arr Try.underlying220 size3 0 rfl (by omega) (o' := 0) rfl ⟨rfl, rfl⟩) ?_
      refine quiet _ (fun w H => H.load 2 rfl agg3 rfl ⟨rfl, rfl⟩) ?_
      refine call_fn (c213 _ (by omega) _ (H.ro 0 rfl) (H.get 0 rfl)) ?_
      rintro _ w7 ⟨rfl, hk7⟩
      replace H := H.same hk7
      refine ⟨.inl H, ?_⟩
      refine quiet _ (fun w H => idxAddr_arr Try.underlying220 size3 1 rfl (by omega) (o' := 1) rfl ⟨rfl, rfl⟩) ?_
      refine quiet _ (fun w H => H.load 2 rfl agg3 rfl ⟨rfl, rfl⟩) ?_
      refine call_fn (c213 _ (by omega) _ (H.ro 0 rfl) (H.get 0 rfl)) ?_
      rintro _ w11 ⟨rfl, hk11⟩
      replace H := H.same hk11
      refine ⟨.inl H, ?_⟩
      refine quiet _ (fun w H => idxAddr_arr Try.underlying220 size3 2 rfl (by omega) (o' := 2) rfl ⟨rfl, rfl⟩) ?_
      refine quiet _ (fun w H => H.load 2 rfl agg3 rfl ⟨rfl, rfl⟩) ?_
      refine call_fn (c213 _ (by omega) _ (H.ro 0 rfl) (H.get 0 rfl)) ?_
      rintro _ w15 ⟨rfl, hk15⟩
      replace H := H.same hk15
      refine ⟨.inl H, ?_⟩
      refine quiet _ (fun w H => min3_by hlv ⟨rfl, rfl⟩) ?_
      exact ⟨(), ⟨rfl, trivial⟩, H⟩
    clear H
    rintro ⟨⟩ u w4 H
    replace H : Hp _ _ _ _ _ := H
    refine cut_rule (γ := Nat × Nat) _ rfl (fun (g11, g12) => [(11, .pointer (some ⟨g11, 0, none⟩)), (12, .pointer (some ⟨g12, 0, none⟩))]) (fun (g11, g12) w' => Hp w (itR ga r rm sv0 room A l).foot w' [arR ga r sv0 room A, mapR ka3 (fun k : Int => Value.int .i64 k) rm l, blk g4 220 (k3c f p q), blk g11 220 (k3c 0 0 0), blk g12 220 (k3c 0 0 0)] (bdM g ga co B o)) ?_ ?_
    · refine H.alloc 220 (cs := k3c 0 0 0) zero220 rfl ?_
      clear H
      intro g5 w5 H
      refine H.alloc 220 (cs := k3c 0 0 0) zero220 rfl ?_
      clear H
      intro g6 w6 H
      exact ⟨(g5, g6), ⟨rfl, rfl, trivial⟩, ((((H.front 1 rfl).front 4 rfl).front 4 rfl).front 4 rfl)⟩
    clear H
    rintro ⟨g11, g12⟩ u w5 H
    replace H : Hp _ _ _ _ _ := H
    refine cut_rule (γ := Unit) _ rfl (fun _ => []) (fun _ w' => Hp w (itR ga r rm sv0 room A l).foot w' [arR ga r sv0 room A, mapR ka3 (fun k : Int => Value.int .i64 k) rm l, blk g4 220 (k3c f p q),
      blk g11 220 (k3c (halfI' A f level false) (halfI' A p level false) (halfI' A q level false)), blk g12 220 (k3c (halfI' A f level true) (halfI' A p level true) (halfI' A q level true))] (bdM g ga co B o)) ?_ ?_
    · refine H.loadAll 2 rfl agg220 size220 ?_
      refine loop_rule (γ := Nat) _ rfl (fun i => [(60, .int .i64 (i : Int))]) (fun i w' => i ≤ 3 ∧ Hp w (itR ga r rm sv0 room A l).foot w' [arR ga r sv0 room A, mapR ka3 (fun k : Int => Value.int .i64 k) rm l, blk g4 220 (k3c f p q),
        blk g11 220 (k3c (if 0 < i then halfI' A f level false else 0) (if 1 < i then halfI' A p level false else 0) (if 2 < i then halfI' A q level false else 0)), blk g12 220 (k3c (if 0 < i then halfI' A f level true else 0) (if 1 < i then halfI' A p level true else 0) (if 2 < i then halfI' A q level true else 0))] (bdM g ga co B o)) (fun i => 3 - i) 0 ⟨rfl, trivial⟩ ⟨by omega, H⟩ ?_
      clear H
      rintro i u w6 ⟨hi, H⟩
      replace H : Hp _ _ _ _ _ := H
      have hi' : i = 0 ∨ i = 1 ∨ i = 2 ∨ i = 3 := by omega
      rcases hi' with rfl | rfl | rfl | rfl
      · refine cond_yes rfl ?_
        refine idx_arr220 (i := 0) (by omega) rfl ?_
        refine call_fn (c214 f level (by omega) _ (H.ro 0 rfl) (H.get 0 rfl)) ?_
        rintro _ w9 ⟨rfl, hk9⟩
        replace H := H.same hk9
        refine idxAddr_arr Try.underlying220 size3 0 rfl (by omega) (o' := 0) rfl ?_
        refine H.store 3 rfl size3 (Nat.le_of_ble_eq_true rfl) rfl ?_
        clear H
        intro w13 H
        refine idxAddr_arr Try.underlying220 size3 0 rfl (by omega) (o' := 0) rfl ?_
        refine H.store 4 rfl size3 (Nat.le_of_ble_eq_true rfl) rfl ?_
        clear H
        intro w15 H
        exact ⟨1, by decide, ⟨up (by omega), trivial⟩, by decide, H⟩
      · refine cond_yes rfl ?_
        refine idx_arr220 (i := 1) (by omega) rfl ?_
        refine call_fn (c214 p level (by omega) _ (H.ro 0 rfl) (H.get 0 rfl)) ?_
        rintro _ w9 ⟨rfl, hk9⟩
        replace H := H.same hk9
        refine idxAddr_arr Try.underlying220 size3 1 rfl (by omega) (o' := 1) rfl ?_
        refine H.store 3 rfl size3 (Nat.le_of_ble_eq_true rfl) rfl ?_
        clear H
        intro w13 H
        refine idxAddr_arr Try.underlying220 size3 1 rfl (by omega) (o' := 1) rfl ?_
        refine H.store 4 rfl size3 (Nat.le_of_ble_eq_true rfl) rfl ?_
        clear H
        intro w15 H
        exact ⟨2, by decide, ⟨up (by omega), trivial⟩, by decide, H⟩
      · refine cond_yes rfl ?_
        refine idx_arr220 (i := 2) (by omega) rfl ?_
        refine call_fn (c214 q level (by omega) _ (H.ro 0 rfl) (H.get 0 rfl)) ?_
        rintro _ w9 ⟨rfl, hk9⟩
        replace H := H.same hk9
        refine idxAddr_arr Try.underlying220 size3 2 rfl (by omega) (o' := 2) rfl ?_
        refine H.store 3 rfl size3 (Nat.le_of_ble_eq_true rfl) rfl ?_
        clear H
        intro w13 H
        refine idxAddr_arr Try.underlying220 size3 2 rfl (by omega) (o' := 2) rfl ?_
        refine H.store 4 rfl size3 (Nat.le_of_ble_eq_true rfl) rfl ?_
        clear H
        intro w15 H
        exact ⟨3, by decide, ⟨up (by omega), trivial⟩, by decide, H⟩
      · refine cond_no rfl ?_
        exact ⟨(), trivial, H⟩
    clear H
    rintro ⟨⟩ u w6 H
    replace H : Hp _ _ _ _ _ := H
    obtain ⟨k', rfl⟩ : ∃ k', k' + 1 = k := ⟨k - 1, by omega⟩
    have IH' := IH k' rfl
    have half1 := fun v => half_level hA hf hlf hlt v
    have half2 := fun v => half_level hA hp hlp hlt v
    have half3 := fun v => half_level hA hq hlq hlt v
    have laf : (level : Int) ≤ lvlA A f := Int.le_trans hlf (lvlB_leA (by omega) f)
    have lap : (level : Int) ≤ lvlA A p := Int.le_trans hlp (lvlB_leA (by omega) p)
    have laq : (level : Int) ≤ lvlA A q := Int.le_trans hlq (lvlB_leA (by omega) q)
    have hF : ∀ j, j < level → Indep (iteF A f p q) j := fun j hj => ite_indep hA.inv (by omega) (by omega) (by omega)
    refine cut_rule (γ := Int × Int × Ar × Value × List (I3 × Int)) _ rfl (fun (id, e, _) => [(15, .int .i64 id), (16, .int .i64 e)]) (fun (id, e, A1, sv1, l1) w' => (Made o.length room A A1 (fun b => iteF A f p q (upA b level false)) id e ∧ ArOk room A1 ∧ MemoOk A1 l1) ∧ Hp w (itR ga r rm sv0 room A l).foot w' [arR ga r sv1 room A1, mapR ka3 (fun k : Int => Value.int .i64 k) rm l1, blk g4 220 (k3c f p q), blk g11 220 (k3c (halfI' A f level false) (halfI' A p level false) (halfI' A q level false)), blk g12 220 (k3c (halfI' A f level true) (halfI' A p level true) (halfI' A q level true))] (bdM g ga co B o)) ?_ ?_
    · refine H.loadAll 3 rfl agg220 size220 ?_
      have hc := IH' _ _ _ A l sv0 _ hA hok hmem (half1 false).1 (half2 false).1 (half3 false).1 (by have := (half1 false).2; omega) (by have := (half2 false).2; omega) (by have := (half3 false).2; omega) (itAt_of (itJoin H))
      rw [ite_half hA.inv laf lap laq] at hc
      refine call_fn hc ?_
      rintro _ w7 ⟨A1, sv1, l1, id, e, rfl, hm, hok1, hmem1, ht⟩
      exact ⟨(id, e, A1, sv1, l1), ⟨rfl, rfl, trivial⟩, ⟨hm, hok1, hmem1⟩, ((itJoin H).turnBy 0 rfl ht).split⟩
    clear H
    rintro ⟨lo, e, A1, sv1, l1⟩ u w7 ⟨⟨hm1, hok1, hmem1⟩, H⟩
    replace H : Hp _ _ _ _ _ := H
    refine cut_rule (γ := Unit) _ rfl (fun _ => []) (fun _ w' => e = 0 ∧ Hp w (itR ga r rm sv0 room A l).foot w' [arR ga r sv1 room A1, mapR ka3 (fun k : Int => Value.int .i64 k) rm l1, blk g4 220 (k3c f p q), blk g11 220 (k3c (halfI' A f level false) (halfI' A p level false) (halfI' A q level false)), blk g12 220 (k3c (halfI' A f level true) (halfI' A p level true) (halfI' A q level true))] (bdM g ga co B o)) ?_ ?_
    · refine cond_bne (fun he => ?_) (fun he => ?_)
      · exact ⟨A1, sv1, l1, 0, e, rfl, made_lo hF hm1 he, hok1, hmem1, (itJoin H).outTurn⟩
      · exact ⟨(), trivial, he, H⟩
    clear H
    rintro ⟨⟩ u w8 ⟨rfl, H⟩
    replace H : Hp _ _ _ _ _ := H
    refine cut_rule (γ := Int × Int × Ar × Value × List (I3 × Int)) _ rfl (fun (id, e, _) => [(17, .int .i64 id), (16, .int .i64 e)]) (fun (id, e, A2, sv2, l2) w' => (Made o.length room A1 A2 (fun b => iteF A f p q (upA b level true)) id e ∧ ArOk room A2 ∧ MemoOk A2 l2) ∧ Hp w (itR ga r rm sv0 room A l).foot w' [arR ga r sv2 room A2, mapR ka3 (fun k : Int => Value.int .i64 k) rm l2, blk g4 220 (k3c f p q), blk g11 220 (k3c (halfI' A f level false) (halfI' A p level false) (halfI' A q level false)), blk g12 220 (k3c (halfI' A f level true) (halfI' A p level true) (halfI' A q level true))] (bdM g ga co B o)) ?_ ?_
    · refine H.loadAll 4 rfl agg220 size220 ?_
      have hx := hm1.ext
      have t1 := (half1 true).1
      have t2 := (half2 true).1
      have t3 := (half3 true).1
      have hc := IH' _ _ _ A1 l1 sv1 _ hm1.inv hok1 hmem1 (by rw [hx.lvl t1]; exact t1) (by rw [hx.lvl t2]; exact t2) (by rw [hx.lvl t3]; exact t3) (by rw [lvlB_ext hx t1]; have := (half1 true).2; omega) (by rw [lvlB_ext hx t2]; have := (half2 true).2; omega) (by rw [lvlB_ext hx t3]; have := (half3 true).2; omega) (itAt_of (itJoin H))
      rw [iteF_ext hA.inv hm1.inv.inv hx t1 t2 t3, ite_half hA.inv laf lap laq] at hc
      refine call_fn hc ?_
      rintro _ w9 ⟨A2, sv2, l2, id, e, rfl, hm, hok2, hmem2, ht⟩
      exact ⟨(id, e, A2, sv2, l2), ⟨rfl, rfl, trivial⟩, ⟨hm, hok2, hmem2⟩, ((itJoin H).turnBy 0 rfl ht).split⟩
    clear H
    rintro ⟨hi, e, A2, sv2, l2⟩ u w9 ⟨⟨hm2, hok2, hmem2⟩, H⟩
    replace H : Hp _ _ _ _ _ := H
    refine cut_rule (γ := Unit) _ rfl (fun _ => []) (fun _ w' => e = 0 ∧ Hp w (itR ga r rm sv0 room A l).foot w' [arR ga r sv2 room A2, mapR ka3 (fun k : Int => Value.int .i64 k) rm l2, blk g4 220 (k3c f p q), blk g11 220 (k3c (halfI' A f level false) (halfI' A p level false) (halfI' A q level false)), blk g12 220 (k3c (halfI' A f level true) (halfI' A p level true) (halfI' A q level true))] (bdM g ga co B o)) ?_ ?_
    · refine cond_bne (fun he => ?_) (fun he => ?_)
      · exact ⟨A2, sv2, l2, 0, e, rfl, made_hi hF hm1 hm2 he, hok2, hmem2, (itJoin H).outTurn⟩
      · exact ⟨(), trivial, he, H⟩
    clear H
    rintro ⟨⟩ u w10 ⟨rfl, H⟩
    replace H : Hp _ _ _ _ _ := H
    have hlo := id_lt hok2 ((hm1.ok.ext hm1.inv.inv hm2.inv.inv hm2.ext).there)
    have hhi := id_lt hok2 hm2.ok.there
    have hmade := made_both hA hlt (by omega) hF hm1 hm2
    have hok3 := ok_node hok2 level lo hi
    have hx3 := ext_nodeA room A2 level lo hi
    refine cut_rule (γ := Value) _ rfl (fun _ => [(18, .int .i64 (nodeA room A2 level lo hi).2.1), (16, .int .i64 (nodeA room A2 level lo hi).2.2)]) (fun sv3 w' => Hp w (itR ga r rm sv0 room A l).foot w' [arR ga r sv3 room (nodeA room A2 level lo hi).1, mapR ka3 (fun k : Int => Value.int .i64 k) rm l2, blk g4 220 (k3c f p q), blk g11 220 (k3c (halfI' A f level false) (halfI' A p level false) (halfI' A q level false)), blk g12 220 (k3c (halfI' A f level true) (halfI' A p level true) (halfI' A q level true))] (bdM g ga co B o)) ?_ ?_
    · refine call_fn (c212 (B := B) (n := o.length) (c := co) level lo hi (by omega) (by omega) (by omega) hok2 _ (H.ro 0 rfl) (H.get 0 rfl) (H.rdis _ (.head _) _ (.head _))) ?_
      rintro _ w11 ⟨sv3, rfl, ht⟩
      exact ⟨sv3, ⟨rfl, rfl, trivial⟩, H.turnBy 0 rfl ht⟩
    clear H
    rintro sv3 u w11 H
    replace H : Hp _ _ _ _ _ := H
    generalize nodeA room A2 level lo hi = N at hmade hok3 hx3 H
    obtain ⟨A3, id, e⟩ := N
    simp only at hmade hok3 hx3 H
    have hmem3 : MemoOk A3 l2 := hmem2.ext hm2.inv.inv hmade.inv.inv hx3
    refine cut_rule (γ := List (I3 × Int)) _ rfl (fun _ => []) (fun l3 w' => MemoOk A3 l3 ∧ Hp w (itR ga r rm sv0 room A l).foot w' [arR ga r sv3 room A3, mapR ka3 (fun k : Int => Value.int .i64 k) rm l3, blk g4 220 (k3c f p q), blk g11 220 (k3c (halfI' A f level false) (halfI' A p level false) (halfI' A q level false)), blk g12 220 (k3c (halfI' A f level true) (halfI' A p level true) (halfI' A q level true))] (bdM g ga co B o)) ?_ ?_
    · refine cond_beq (fun he => ?_) (fun he => ?_)
      · refine H.loadAll 2 rfl agg220 size220 ?_
        have he : e = 0 := he
        subst he
        have hr := hmade.ok
        have hx := hmade.ext
        rw [← iteF_ext hA.inv hmade.inv.inv hx hf hp hq] at hr
        refine H.mapSet 1 rfl W221 (f, p, q) id fun w' H => ?_
        exact ⟨_, trivial, hmem3.put (by rw [hx.lvl hf]; exact hf) (by rw [hx.lvl hp]; exact hp) (by rw [hx.lvl hq]; exact hq) hr, H⟩
      · exact ⟨l2, trivial, hmem3, H⟩
    clear H
    rintro l3 u w12 ⟨hmem4, H⟩
    replace H : Hp _ _ _ _ _ := H
    exact ⟨A3, sv3, l3, id, e, rfl, hmade, hok3, hmem4, (itJoin H).outTurn⟩
theorem c187 {o : List Nat} (hn : o.length ≤ 8) {g ga r rm co : Nat} {B : Option Addr} {room : Int} : ∀ k, IteC o g ga r rm co B room k
  | 0 => c187_step hn fun k' h => by omega
  | k + 1 => c187_step hn fun k' h => by
    obtain rfl : k' = k := by omega
    exact c187 hn k'
end Go.Proofs.Ytjebpngdinbckaa
end

section
/- Decision diagrams: Ite, Not, And, Or. -/
namespace Go.Proofs.Ytjebpngdinbckaa
open Go.Dk
attribute [local irreducible] IntKind.wrap

/-- What Ite answers. -/
def IteR (n : Nat) (room : Int) (A A' : Ar) (f p q id e : Int) : Prop := (¬ (0 ≤ lvlA A f ∧ 0 ≤ lvlA A p ∧ 0 ≤ lvlA A q) ∧ A' = A ∧ id = 0 ∧ e = 1) ∨ ((0 ≤ lvlA A f ∧ 0 ≤ lvlA A p ∧ 0 ≤ lvlA A q) ∧ Made n room A A' (iteF A f p q) id e)
theorem IteR.made {n : Nat} {room : Int} {A A' : Ar} {f p q id e : Int} (h : IteR n room A A' f p q id e) (hf : 0 ≤ lvlA A f) (hp : 0 ≤ lvlA A p) (hq : 0 ≤ lvlA A q) : Made n room A A' (iteF A f p q) id e := by
  rcases h with ⟨h, _⟩ | ⟨_, h⟩
  · exact absurd ⟨hf, hp, hq⟩ h
  · exact h
theorem blkN_Sl {w : World} {g : Nat} {t : TypeId} {cs : Array Value} {n : Nat} (h : (blk g t cs).ok w) (hg : g < w.heap.size) (hn : cs.size = n) (hm : n ≤ maxLen) : Sl w (.slice (some ⟨g, 0, none⟩) n n) 1 n cs.toList := by
  subst hn
  have h2 : (own t 1 (.slice (some ⟨g, 0, none⟩) cs.size cs.size) cs.size cs.toList).ok w := ⟨by simp, .inr ⟨g, cs.size, cs, rfl, Nat.zero_le _, h, Nat.le_refl _, hm, by simp, by rw [Nat.mul_one, ← Array.length_toList]; exact List.take_length⟩⟩
  exact own_Sl h2
theorem ent117 : enters Try.prog 117 = true := by kernel_rfl
theorem c117 {o : List Nat} (hn : o.length ≤ 8) {g ga r co : Nat} {B : Option Addr} {room : Int} {A : Ar} {sv0 : Value} (f p q : Int) (hf : f < 9223372036854775808) (hp : p < 9223372036854775808) (hq : q < 9223372036854775808) (w : World) (hA : BInv o.length A) (hok : ArOk room A) (hbd : BdAt w g ga r co B o sv0 room A) :
    Fun Try.prog 117 [.pointer (some ⟨g, 0, none⟩), .int .i64 f, .int .i64 p, .int .i64 q] w fun v w' => ∃ A' sv' id e, v = .tuple #[.int .i64 id, .int .i64 e] ∧ IteR o.length room A A' f p q id e ∧ ArOk room A' ∧ Turn w w' (arR ga r sv0 room A) (arR ga r sv' room A') := by
  refine fun_of_W (N := 26) Try.func117 ent117 rfl rfl rfl (by simp) ?_
  have H := hbd.start
  refine cut_rule (γ := Unit) _ rfl (fun _ => []) (fun _ w' => Hp w (arR ga r sv0 room A).foot w' [arR ga r sv0 room A] (bdM g ga co B o)) ⟨(), trivial, H⟩ ?_
  clear H
  rintro ⟨⟩ u w0 H
  replace H : Hp _ _ _ _ _ := H
  refine cut_rule (γ := Unit) _ rfl (fun _ => []) (fun _ w' => (0 ≤ lvlA A f ∧ 0 ≤ lvlA A p ∧ 0 ≤ lvlA A q) ∧ Hp w (arR ga r sv0 room A).foot w' [arR ga r sv0 room A] (bdM g ga co B o)) ?_ ?_
  · refine H.buildSl T32 (n := 3) (cs := k3c f p q) (by omega) (by omega) ?_ ?_
    · kernel_rfl
    · clear H
      intro g5 w1 H
      refine call_fn (c184 (n := o.length) (c := co) (B := B) [f, p, q] (some ⟨g5, 0, none⟩) 3 (by show 3 ≤ 1000000000; omega) (fun id hid => ?_) _ (H.ro 0 rfl) (H.get 1 rfl) (blkN_Sl (H.get 0 rfl) (blk_lt (H.get 0 rfl)) rfl (by show 3 ≤ maxLen; decide))) ?_
      · simp only [List.mem_cons, List.not_mem_nil, or_false] at hid
        rcases hid with rfl | rfl | rfl <;> assumption
      rintro _ w2 ⟨rfl, hk⟩
      replace H := H.same hk
      clear hk
      by_cases ht : 0 ≤ lvlA A f ∧ 0 ≤ lvlA A p ∧ 0 ≤ lvlA A q
      · have : ([f, p, q].all fun id => decide (0 ≤ lvlA A id)) = true := by simp [ht]
        rw [this]
        refine cond_no rfl ?_
        exact ⟨(), trivial, ht, H.forget⟩
      · have : ([f, p, q].all fun id => decide (0 ≤ lvlA A id)) = false := by
          rw [Bool.eq_false_iff]; intro hh; simp at hh; exact ht hh
        rw [this]
        refine cond_yes rfl ?_
        exact ⟨A, sv0, 0, 1, rfl, .inl ⟨ht, rfl, rfl, rfl⟩, hok, H.forget.outTurn⟩
  clear H
  rintro ⟨⟩ u w2 ⟨⟨tf, tp, tq⟩, H⟩
  replace H : Hp _ _ _ _ _ := H
  refine build_by (v := k3 f p q) (fun w => by kernel_rfl) ?_
  refine H.makeMap ka3 (fun k : Int => Value.int .i64 k) ?_
  clear H
  intro rm w3 H
  have H1 := itJoin (H.front 1 rfl)
  refine call_fn (c187 hn o.length f p q A [] sv0 _ hA hok (MemoOk.nil A) tf tp tq ?_ ?_ ?_ (itAt_of H1)) ?_
  · have := (lvlB_there (n := o.length)).2 tf; omega
  · have := (lvlB_there (n := o.length)).2 tp; omega
  · have := (lvlB_there (n := o.length)).2 tq; omega
  rintro _ w4 ⟨A', sv', l', id, e, rfl, hm, hok', hmem, ht⟩
  have H2 := (H1.turnBy 0 rfl ht).split
  exact ⟨A', sv', id, e, rfl, .inr ⟨⟨tf, tp, tq⟩, hm⟩, hok', H2.outTurn⟩
theorem ent116 : enters Try.prog 116 = true := by kernel_rfl
theorem ent114 : enters Try.prog 114 = true := by kernel_rfl
theorem ent128 : enters Try.prog 128 = true := by kernel_rfl
theorem c116 {o : List Nat} (hn : o.length ≤ 8) {g ga r co : Nat} {B : Option Addr} {room : Int} {A : Ar} {sv0 : Value} (f p : Int) (hf : f < 9223372036854775808) (hp : p < 9223372036854775808) (w : World) (hA : BInv o.length A) (hok : ArOk room A) (hbd : BdAt w g ga r co B o sv0 room A) :
    Fun Try.prog 116 [.pointer (some ⟨g, 0, none⟩), .int .i64 f, .int .i64 p] w fun v w' => ∃ A' sv' id e, v = .tuple #[.int .i64 id, .int .i64 e] ∧ IteR o.length room A A' f 1 p id e ∧ ArOk room A' ∧ Turn w w' (arR ga r sv0 room A) (arR ga r sv' room A') := by
  refine fun_of_W (N := 14) Try.func116 ent116 rfl rfl rfl (by simp) ?_
  refine call_fn (c117 hn f 1 p hf (by decide) hp w hA hok hbd) ?_
  rintro _ w4 ⟨A', sv', id, e, rfl, hm, hok', ht⟩
  exact ⟨A', sv', id, e, rfl, hm, hok', ht⟩
theorem c114 {o : List Nat} (hn : o.length ≤ 8) {g ga r co : Nat} {B : Option Addr} {room : Int} {A : Ar} {sv0 : Value} (f p : Int) (hf : f < 9223372036854775808) (hp : p < 9223372036854775808) (w : World) (hA : BInv o.length A) (hok : ArOk room A) (hbd : BdAt w g ga r co B o sv0 room A) :
    Fun Try.prog 114 [.pointer (some ⟨g, 0, none⟩), .int .i64 f, .int .i64 p] w fun v w' => ∃ A' sv' id e, v = .tuple #[.int .i64 id, .int .i64 e] ∧ IteR o.length room A A' f p 0 id e ∧ ArOk room A' ∧ Turn w w' (arR ga r sv0 room A) (arR ga r sv' room A') := by
  refine fun_of_W (N := 14) Try.func114 ent114 rfl rfl rfl (by simp) ?_
  refine call_fn (c117 hn f p 0 hf hp (by decide) w hA hok hbd) ?_
  rintro _ w4 ⟨A', sv', id, e, rfl, hm, hok', ht⟩
  exact ⟨A', sv', id, e, rfl, hm, hok', ht⟩
theorem c128 {o : List Nat} (hn : o.length ≤ 8) {g ga r co : Nat} {B : Option Addr} {room : Int} {A : Ar} {sv0 : Value} (f : Int) (hf : f < 9223372036854775808) (w : World) (hA : BInv o.length A) (hok : ArOk room A) (hbd : BdAt w g ga r co B o sv0 room A) :
    Fun Try.prog 128 [.pointer (some ⟨g, 0, none⟩), .int .i64 f] w fun v w' => ∃ A' sv' id e, v = .tuple #[.int .i64 id, .int .i64 e] ∧ IteR o.length room A A' f 0 1 id e ∧ ArOk room A' ∧ Turn w w' (arR ga r sv0 room A) (arR ga r sv' room A') := by
  refine fun_of_W (N := 11) Try.func128 ent128 rfl rfl rfl (by simp) ?_
  refine call_fn (c117 hn f 0 1 hf (by decide) (by decide) w hA hok hbd) ?_
  rintro _ w4 ⟨A', sv', id, e, rfl, hm, hok', ht⟩
  exact ⟨A', sv', id, e, rfl, hm, hok', ht⟩
end Go.Proofs.Ytjebpngdinbckaa
end

section
/- Decision diagrams: fix, Some. -/
namespace Go.Proofs.Ytjebpngdinbckaa
open Go.Dk
attribute [local irreducible] IntKind.wrap

/-- What fix is to answer. -/
def FixC (o : List Nat) (g ga r co : Nat) (B : Option Addr) (room : Int) (level : Nat) (b : Bool) (k : Nat) : Prop := ∀ (f : Int) (A : Ar) (sv0 : Value) (w : World), BInv o.length A → ArOk room A → 0 ≤ lvlA A f →
  (o.length : Int) - k ≤ lvlB o.length A f → BdAt w g ga r co B o sv0 room A →
  Fun Try.prog 195 [.pointer (some ⟨g, 0, none⟩), .int .i64 f, .int .i64 (level : Int), .bool b] w fun v w' => ∃ A' sv' id e, v = .tuple #[.int .i64 id, .int .i64 e] ∧ Made o.length room A A' (fixF A f level b) id e ∧ ArOk room A' ∧
    Turn w w' (arR ga r sv0 room A) (arR ga r sv' room A')
theorem ent195 : enters Try.prog 195 = true := by kernel_rfl
theorem c195_step {o : List Nat} (hn : o.length ≤ 8) {g ga r co : Nat} {B : Option Addr} {room : Int} {level : Nat} (hlev : level < o.length) {b : Bool} {k : Nat} (IH : ∀ k', k' + 1 = k → FixC o g ga r co B room level b k') : FixC o g ga r co B room level b k := by
  intro f A sv0 w hA hok hf lf hbd
  refine fun_of_W (N := 79) Try.func195 ent195 rfl rfl rfl (by simp) ?_
  have H := hbd.start
  have hfl := id_lt hok hf
  refine cut_rule (γ := Unit) _ rfl (fun _ => []) (fun _ w' => Hp w (arR ga r sv0 room A).foot w' [arR ga r sv0 room A] (bdM g ga co B o)) ⟨(), trivial, H⟩ ?_
  clear H
  rintro ⟨⟩ u w0 H
  replace H : Hp _ _ _ _ _ := H
  have hlk : ∀ d, ndA A f = some d → lookV A f = .tuple #[.int .i64 d.l, .int .i64 d.lo, .int .i64 d.hi, .bool true] := fun d hd => by unfold lookV; rw [hd]
  have hln : ndA A f = none → lookV A f = .tuple #[.int .i64 0, .int .i64 0, .int .i64 0, .bool false] := fun hd => by unfold lookV; rw [hd]
  have hc := fun w1 h => c72 (g := ga) (r := r) (sv := sv0) (room := room) (A := A) f (by omega) w1 h
  cases hd : ndA A f with
  | none =>
    rw [hln hd] at hc
    have h24 := lvl_end (A := A) (nd_none hd hf)
    refine fieldAddr_by (fa213_1 _) ?_
    refine ld_blk (H.ro 0 rfl) agg59 rfl ?_
    refine call_fn (hc _ (H.get 0 rfl)) ?_
    rintro _ w3 ⟨rfl, hk3⟩
    replace H := H.same hk3
    clear hk3
    iterate 5 refine cond_yes rfl ?_
    exact ⟨A, sv0, f, 0, rfl, Made.refl hA (fix_below hA.inv hf (by omega) b), hok, H.outTurn⟩
  | some d =>
    rw [hlk d hd] at hc
    have hl := nd_lvl hd
    have hlB := lvlB_nd (n := o.length) hd
    have hlo := lev_of hA.inv hd
    have hdn : d.l < o.length := by obtain ⟨i, _, hs⟩ := nd_place hd; exact hA.lt i d hs
    refine cut_rule (γ := Unit) _ rfl (fun _ => [(10, .int .i64 (d.l : Int)), (11, .int .i64 (d.lo : Int)), (12, .int .i64 (d.hi : Int)), (13, .bool true)]) (fun _ w' => Hp w (arR ga r sv0 room A).foot w' [arR ga r sv0 room A] (bdM g ga co B o)) ?_ ?_
    · refine fieldAddr_by (fa213_1 _) ?_
      refine ld_blk (H.ro 0 rfl) agg59 rfl ?_
      refine call_fn (hc _ (H.get 0 rfl)) ?_
      rintro _ w3 ⟨rfl, hk3⟩
      replace H := H.same hk3
      clear hk3
      exact ⟨(), ⟨rfl, rfl, rfl, rfl, trivial⟩, H⟩
    clear H
    rintro ⟨⟩ u w1 H
    replace H : Hp _ _ _ _ _ := H
    refine cut_rule (γ := Unit) _ rfl (fun _ => []) (fun _ w' => d.l < level ∧ Hp w (arR ga r sv0 room A).foot w' [arR ga r sv0 room A] (bdM g ga co B o)) ?_ ?_
    · by_cases h1 : (level : Int) < d.l
      · iterate 4 refine cond_no rfl ?_
        refine cond_yes (decide_eq_true (by assumption)) ?_
        exact ⟨A, sv0, f, 0, rfl, Made.refl hA (fix_below hA.inv hf (by omega) b), hok, H.outTurn⟩
      by_cases h2 : (d.l : Int) = level
      · cases b
        · iterate 4 refine cond_no rfl ?_
          refine cond_no (decide_eq_false (by assumption)) ?_
          iterate 2 refine cond_yes (beq_iff_eq.2 (by assumption)) ?_
          refine cond_no rfl ?_
          refine cond_yes (beq_iff_eq.2 (by assumption)) ?_
          obtain rfl : d.l = level := by omega
          exact ⟨A, sv0, d.lo, 0, rfl, Made.refl hA (fix_at hA.inv hd false), hok, H.outTurn⟩
        · iterate 4 refine cond_no rfl ?_
          refine cond_no (decide_eq_false (by assumption)) ?_
          iterate 2 refine cond_yes (beq_iff_eq.2 (by assumption)) ?_
          refine cond_yes rfl ?_
          obtain rfl : d.l = level := by omega
          exact ⟨A, sv0, d.hi, 0, rfl, Made.refl hA (fix_at hA.inv hd true), hok, H.outTurn⟩
      iterate 4 refine cond_no rfl ?_
      refine cond_no (decide_eq_false (by assumption)) ?_
      iterate 2 refine cond_no (beq_eq_false_iff_ne.2 (by assumption)) ?_
      refine cond_no rfl ?_
      refine cond_no (beq_eq_false_iff_ne.2 (by assumption)) ?_
      exact ⟨(), trivial, by omega, H⟩
    clear H
    rintro ⟨⟩ u w2 ⟨hdl, H⟩
    replace H : Hp _ _ _ _ _ := H
    obtain ⟨k', rfl⟩ : ∃ k', k' + 1 = k := ⟨k - 1, by omega⟩
    have IH' := IH k' rfl
    have hF := fix_indep hA.inv hd (level := level) b
    have u0 := fix_up hA.inv hd hdl b false
    have u1 := fix_up hA.inv hd hdl b true
    simp only [Bool.false_eq_true, if_false] at u0
    simp only [if_true] at u1
    have b0 : (d.l : Int) + 1 ≤ lvlB o.length A d.lo := by unfold lvlB; split <;> omega
    have b1 : (d.l : Int) + 1 ≤ lvlB o.length A d.hi := by unfold lvlB; split <;> omega
    have t0 : 0 ≤ lvlA A d.lo := by omega
    have t1 : 0 ≤ lvlA A d.hi := by omega
    refine cut_rule (γ := Int × Int × Ar × Value) _ rfl (fun (id, e, _) => [(14, .int .i64 id), (15, .int .i64 e)]) (fun (id, e, A1, sv1) w' => (Made o.length room A A1 (fun c => fixF A f level b (upA c d.l false)) id e ∧ ArOk room A1) ∧ Hp w (arR ga r sv0 room A).foot w' [arR ga r sv1 room A1] (bdM g ga co B o)) ?_ ?_
    · rw [u0]
      refine call_fn (IH' d.lo A sv0 _ hA hok t0 (by omega) (H.bdAt 0 rfl fun s hs => hs)) ?_
      rintro _ w7 ⟨A1, sv1, id, e, rfl, hm, hok1, ht⟩
      exact ⟨(id, e, A1, sv1), ⟨rfl, rfl, trivial⟩, ⟨hm, hok1⟩, H.turnBy 0 rfl ht⟩
    clear H
    rintro ⟨lo, e, A1, sv1⟩ u w3 ⟨⟨hm1, hok1⟩, H⟩
    replace H : Hp _ _ _ _ _ := H
    refine cut_rule (γ := Unit) _ rfl (fun _ => []) (fun _ w' => e = 0 ∧ Hp w (arR ga r sv0 room A).foot w' [arR ga r sv1 room A1] (bdM g ga co B o)) ?_ ?_
    · refine cond_bne (fun he => ?_) (fun he => ?_)
      · exact ⟨A1, sv1, 0, e, rfl, made_lo hF hm1 he, hok1, H.outTurn⟩
      · exact ⟨(), trivial, he, H⟩
    clear H
    rintro ⟨⟩ u w4 ⟨rfl, H⟩
    replace H : Hp _ _ _ _ _ := H
    have hx := hm1.ext
    refine cut_rule (γ := Int × Int × Ar × Value) _ rfl (fun (id, e, _) => [(16, .int .i64 id), (15, .int .i64 e)]) (fun (id, e, A2, sv2) w' => (Made o.length room A1 A2 (fun c => fixF A f level b (upA c d.l true)) id e ∧ ArOk room A2) ∧ Hp w (arR ga r sv0 room A).foot w' [arR ga r sv2 room A2] (bdM g ga co B o)) ?_ ?_
    · rw [u1, ← fixF_ext hA.inv hm1.inv.inv hx t1]
      refine call_fn (IH' d.hi A1 sv1 _ hm1.inv hok1 (by rw [hx.lvl t1]; exact t1) (by rw [lvlB_ext hx t1]; omega) (H.bdAt 0 rfl fun s hs => hs)) ?_
      rintro _ w7 ⟨A2, sv2, id, e, rfl, hm, hok2, ht⟩
      exact ⟨(id, e, A2, sv2), ⟨rfl, rfl, trivial⟩, ⟨hm, hok2⟩, H.turnBy 0 rfl ht⟩
    clear H
    rintro ⟨hi, e, A2, sv2⟩ u w5 ⟨⟨hm2, hok2⟩, H⟩
    replace H : Hp _ _ _ _ _ := H
    refine cut_rule (γ := Unit) _ rfl (fun _ => []) (fun _ w' => e = 0 ∧ Hp w (arR ga r sv0 room A).foot w' [arR ga r sv2 room A2] (bdM g ga co B o)) ?_ ?_
    · refine cond_bne (fun he => ?_) (fun he => ?_)
      · exact ⟨A2, sv2, 0, e, rfl, made_hi hF hm1 hm2 he, hok2, H.outTurn⟩
      · exact ⟨(), trivial, he, H⟩
    clear H
    rintro ⟨⟩ u w6 ⟨rfl, H⟩
    replace H : Hp _ _ _ _ _ := H
    have hlo := id_lt hok2 ((hm1.ok.ext hm1.inv.inv hm2.inv.inv hm2.ext).there)
    have hhi := id_lt hok2 hm2.ok.there
    have hbd2 := H.bdAt 0 rfl fun s hs => hs
    refine call_fn (c212 (B := B) (n := o.length) (c := co) d.l lo hi (by omega) (by omega) (by omega) hok2 _ (hbd2.head _ (.head _)) hbd2.ar (hbd2.dis _ (.head _))) ?_
    rintro _ w8 ⟨sv3, rfl, ht⟩
    replace H := H.turnBy 0 rfl ht
    exact ⟨_, sv3, _, _, rfl, made_both hA hdn (by omega) hF hm1 hm2, ok_node hok2 d.l lo hi, H.outTurn⟩
theorem c195 {o : List Nat} (hn : o.length ≤ 8) {g ga r co : Nat} {B : Option Addr} {room : Int} {level : Nat} (hlev : level < o.length) {b : Bool} : ∀ k, FixC o g ga r co B room level b k
  | 0 => c195_step hn hlev fun k' h => by omega
  | k + 1 => c195_step hn hlev fun k' h => by
    obtain rfl : k' = k := by omega
    exact c195 hn hlev k'
end Go.Proofs.Ytjebpngdinbckaa
end

section
/- Decision diagrams: Some. -/
namespace Go.Proofs.Ytjebpngdinbckaa
open Go.Dk
attribute [local irreducible] IntKind.wrap

/-- What Some answers, of a level. -/
def SomeR (n : Nat) (room : Int) (A A' : Ar) (f : Int) (level : Nat) (id e : Int) : Prop :=
  (∃ x, Made n room A A' (fixF A f level false) x e ∧ e ≠ 0 ∧ id = 0) ∨
  (∃ A1 x y, Made n room A A1 (fixF A f level false) x 0 ∧ Made n room A1 A' (fixF A f level true) y e ∧ e ≠ 0 ∧ id = 0) ∨
  (∃ A1 A2 x y, Made n room A A1 (fixF A f level false) x 0 ∧ Made n room A1 A2 (fixF A f level true) y 0 ∧ Made n room A2 A' (iteF A2 x 1 y) id e)
theorem intsN_get {o : List Nat} {i : Nat} (h : i < o.length) : (intsN o)[i]? = some (.int .i64 ((o.getD i 0 : Nat) : Int)) := by
  unfold intsN
  rw [List.getElem?_map, List.getD_eq_getElem?_getD, List.getElem?_eq_getElem h]; rfl
theorem ent129 : enters Try.prog 129 = true := by kernel_rfl
theorem c129 {o : List Nat} (ho : OrdO o) (hn : o.length ≤ 8) {g ga r co : Nat} {B : Option Addr} {room : Int} {A : Ar} {sv0 : Value} (f input : Int) (hf : f < 9223372036854775808) (w : World) (hA : BInv o.length A) (hok : ArOk room A) (hbd : BdAt w g ga r co B o sv0 room A) :
    Fun Try.prog 129 [.pointer (some ⟨g, 0, none⟩), .int .i64 f, .int .i64 input] w fun v w' => ∃ A' sv' id e, v = .tuple #[.int .i64 id, .int .i64 e] ∧
      ((¬ (0 ≤ lvlA A f ∧ 0 ≤ input ∧ input < o.length) ∧ A' = A ∧ id = 0 ∧ e = 1) ∨ (0 ≤ lvlA A f ∧ ∃ i : Nat, input = i ∧ i < o.length ∧ SomeR o.length room A A' f (o.idxOf i) id e)) ∧ ArOk room A' ∧ Turn w w' (arR ga r sv0 room A) (arR ga r sv' room A') := by
  refine fun_of_W (N := 67) Try.func129 ent129 rfl rfl rfl (by simp) ?_
  have H := hbd.start
  refine cut_rule (γ := Unit) _ rfl (fun _ => []) (fun _ w' => Hp w (arR ga r sv0 room A).foot w' [arR ga r sv0 room A] (bdM g ga co B o)) ⟨(), trivial, H⟩ ?_
  clear H
  rintro ⟨⟩ u w0 H
  replace H : Hp _ _ _ _ _ := H
  refine cut_rule (γ := Unit) _ rfl (fun _ => []) (fun _ w' => (0 ≤ lvlA A f ∧ 0 ≤ input ∧ input < o.length) ∧ Hp w (arR ga r sv0 room A).foot w' [arR ga r sv0 room A] (bdM g ga co B o)) ?_ ?_
  · refine H.buildOne T32 rfl ?_
    clear H
    intro g5 w1 H
    refine call_fn (c184 (n := o.length) (c := co) (B := B) [f] (some ⟨g5, 0, none⟩) 1 (by show 1 ≤ 1000000000; omega) (fun id hid => by rw [List.mem_singleton] at hid; subst hid; exact hf) _ (H.ro 0 rfl) (H.get 1 rfl) (blkN_Sl (H.get 0 rfl) (blk_lt (H.get 0 rfl)) rfl (by show 1 ≤ maxLen; decide))) ?_
    rintro _ w2 ⟨rfl, hk⟩
    replace H := H.same hk
    clear hk
    by_cases ht : 0 ≤ lvlA A f
    · have : ([f].all fun id => decide (0 ≤ lvlA A id)) = true := by simp [ht]
      rw [this]
      by_cases h0 : input < 0
      · iterate 3 refine cond_no rfl ?_
        iterate 8 refine cond_yes (decide_eq_true (by assumption)) ?_
        refine cond_yes rfl ?_
        exact ⟨A, sv0, 0, 1, rfl, .inl ⟨fun h => by omega, rfl, rfl, rfl⟩, hok, (H.front 1 rfl).outTurn⟩
      by_cases h1 : (o.length : Int) ≤ input
      · iterate 3 refine cond_no rfl ?_
        iterate 4 refine cond_no (decide_eq_false (by assumption)) ?_
        refine fieldAddr_by (fa213_0 _) ?_
        refine cond_no (decide_eq_false (by assumption)) ?_
        refine ld_blk (H.ro 0 rfl) agg32 rfl ?_
        refine cond_no (decide_eq_false (by assumption)) ?_
        refine len_sl Try.underlying32 ?_
        iterate 2 refine cond_no (decide_eq_false (by assumption)) ?_
        refine cond_yes (decide_eq_true (by assumption)) ?_
        exact ⟨A, sv0, 0, 1, rfl, .inl ⟨fun h => by omega, rfl, rfl, rfl⟩, hok, (H.front 1 rfl).outTurn⟩
      iterate 3 refine cond_no rfl ?_
      iterate 4 refine cond_no (decide_eq_false (by assumption)) ?_
      refine fieldAddr_by (fa213_0 _) ?_
      refine cond_no (decide_eq_false (by assumption)) ?_
      refine ld_blk (H.ro 0 rfl) agg32 rfl ?_
      refine cond_no (decide_eq_false (by assumption)) ?_
      refine len_sl Try.underlying32 ?_
      iterate 3 refine cond_no (decide_eq_false (by assumption)) ?_
      exact ⟨(), trivial, ⟨ht, by omega, by omega⟩, H.forget⟩
    · have : ([f].all fun id => decide (0 ≤ lvlA A id)) = false := by simp; omega
      rw [this]
      iterate 12 refine cond_yes rfl ?_
      exact ⟨A, sv0, 0, 1, rfl, .inl ⟨fun h => ht h.1, rfl, rfl, rfl⟩, hok, (H.front 1 rfl).outTurn⟩
  clear H
  rintro ⟨⟩ u w1 ⟨⟨tf, h0, h1⟩, H⟩
  replace H : Hp _ _ _ _ _ := H
  obtain ⟨i, rfl⟩ : ∃ i : Nat, input = i := ⟨input.toNat, by omega⟩
  have hi : i < o.length := by omega
  have hil := ho.idx_lt hi
  have hig := ho.get_idx hi
  refine cut_rule (γ := Unit) _ rfl (fun _ => [(8, .int .i64 0)]) (fun _ w' => Hp w (arR ga r sv0 room A).foot w' [arR ga r sv0 room A] (bdM g ga co B o)) ⟨(), ⟨rfl, trivial⟩, H⟩ ?_
  clear H
  rintro ⟨⟩ u w2 H
  replace H : Hp _ _ _ _ _ := H
  refine cut_rule (γ := Unit) _ rfl (fun _ => [(8, .int .i64 ((o.idxOf i : Nat) : Int))]) (fun _ w' => Hp w (arR ga r sv0 room A).foot w' [arR ga r sv0 room A] (bdM g ga co B o)) ?_ ?_
  · refine loop_rule (γ := Nat) _ rfl (fun j => [(8, .int .i64 (j : Int))]) (fun j w' => j ≤ o.idxOf i ∧ Hp w (arR ga r sv0 room A).foot w' [arR ga r sv0 room A] (bdM g ga co B o)) (fun j => o.length - j) 0 ⟨rfl, trivial⟩ ⟨Nat.zero_le _, H⟩ ?_
    clear H
    rintro j u w3 ⟨hj, H⟩
    replace H : Hp _ _ _ _ _ := H
    have hjn : j < o.length := by omega
    have hget := intsN_get hjn
    obtain ⟨gB, rfl⟩ := own_base (H.ro 1 rfl) (by omega)
    refine fieldAddr_by (fa213_0 _) ?_
    refine ld_blk (H.ro 0 rfl) agg32 rfl ?_
    refine idxAddr_sl Try.underlying32 (s := 1) size3 j rfl hjn (o' := j) (by omega) ?_
    refine load_cell agg3 ((own_cell (H.ro 1 rfl) j (by omega)).trans hget) ?_
    refine cond_bne (fun hne => ?_) (fun he => ?_)
    · have : j ≠ o.idxOf i := fun h => hne (by rw [h, hig])
      exact ⟨j + 1, by show o.length - (j + 1) < o.length - j; omega, ⟨up (by omega), trivial⟩, by show j + 1 ≤ o.idxOf i; omega, H⟩
    · have he' : o.getD j 0 = o.getD (o.idxOf i) 0 := by omega
      have := ho.inj hjn hil he'
      rw [← this]
      exact ⟨(), ⟨rfl, trivial⟩, H⟩
  clear H
  rintro ⟨⟩ u w3 H
  replace H : Hp _ _ _ _ _ := H
  refine cut_rule (γ := Int × Int × Ar × Value) _ rfl (fun (id, e, _) => [(9, .int .i64 id), (10, .int .i64 e)]) (fun (id, e, A1, sv1) w' => (Made o.length room A A1 (fixF A f (o.idxOf i) false) id e ∧ ArOk room A1) ∧ Hp w (arR ga r sv0 room A).foot w' [arR ga r sv1 room A1] (bdM g ga co B o)) ?_ ?_
  · refine call_fn (c195 hn hil o.length f A sv0 _ hA hok tf (by have := (lvlB_there (n := o.length)).2 tf; omega) (H.bdAt 0 rfl fun s hs => hs)) ?_
    rintro _ w7 ⟨A1, sv1, id, e, rfl, hm, hok1, ht⟩
    exact ⟨(id, e, A1, sv1), ⟨rfl, rfl, trivial⟩, ⟨hm, hok1⟩, H.turnBy 0 rfl ht⟩
  clear H
  rintro ⟨x, e, A1, sv1⟩ u w3 ⟨⟨hm1, hok1⟩, H⟩
  replace H : Hp _ _ _ _ _ := H
  refine cut_rule (γ := Unit) _ rfl (fun _ => []) (fun _ w' => e = 0 ∧ Hp w (arR ga r sv0 room A).foot w' [arR ga r sv1 room A1] (bdM g ga co B o)) ?_ ?_
  · refine cond_bne (fun he => ?_) (fun he => ?_)
    · exact ⟨A1, sv1, 0, e, rfl, .inr ⟨tf, i, rfl, hi, .inl ⟨x, hm1, he, rfl⟩⟩, hok1, H.outTurn⟩
    · exact ⟨(), trivial, he, H⟩
  clear H
  rintro ⟨⟩ u w4 ⟨rfl, H⟩
  replace H : Hp _ _ _ _ _ := H
  have hx := hm1.ext
  have tf1 : 0 ≤ lvlA A1 f := by rw [hx.lvl tf]; exact tf
  refine cut_rule (γ := Int × Int × Ar × Value) _ rfl (fun (id, e, _) => [(11, .int .i64 id), (10, .int .i64 e)]) (fun (id, e, A2, sv2) w' => (Made o.length room A1 A2 (fixF A f (o.idxOf i) true) id e ∧ ArOk room A2) ∧ Hp w (arR ga r sv0 room A).foot w' [arR ga r sv2 room A2] (bdM g ga co B o)) ?_ ?_
  · rw [← fixF_ext hA.inv hm1.inv.inv hx tf]
    refine call_fn (c195 hn hil o.length f A1 sv1 _ hm1.inv hok1 tf1 (by have := (lvlB_there (n := o.length)).2 tf1; omega) (H.bdAt 0 rfl fun s hs => hs)) ?_
    rintro _ w7 ⟨A2, sv2, id, e, rfl, hm, hok2, ht⟩
    exact ⟨(id, e, A2, sv2), ⟨rfl, rfl, trivial⟩, ⟨hm, hok2⟩, H.turnBy 0 rfl ht⟩
  clear H
  rintro ⟨y, e, A2, sv2⟩ u w5 ⟨⟨hm2, hok2⟩, H⟩
  replace H : Hp _ _ _ _ _ := H
  refine cut_rule (γ := Unit) _ rfl (fun _ => []) (fun _ w' => e = 0 ∧ Hp w (arR ga r sv0 room A).foot w' [arR ga r sv2 room A2] (bdM g ga co B o)) ?_ ?_
  · refine cond_bne (fun he => ?_) (fun he => ?_)
    · exact ⟨A2, sv2, 0, e, rfl, .inr ⟨tf, i, rfl, hi, .inr (.inl ⟨A1, x, y, hm1, hm2, he, rfl⟩)⟩, hok2, H.outTurn⟩
    · exact ⟨(), trivial, he, H⟩
  clear H
  rintro ⟨⟩ u w6 ⟨rfl, H⟩
  replace H : Hp _ _ _ _ _ := H
  have tx := (hm1.ok.ext hm1.inv.inv hm2.inv.inv hm2.ext).there
  have hxl := id_lt hok2 tx
  have hyl := id_lt hok2 hm2.ok.there
  refine call_fn (c116 hn x y (by omega) (by omega) _ hm2.inv hok2 (H.bdAt 0 rfl fun s hs => hs)) ?_
  rintro _ w8 ⟨A3, sv3, id, e, rfl, hm, hok3, ht⟩
  have t1 : 0 ≤ lvlA A2 1 := by rw [lvl_end (.inr rfl)]; decide
  exact ⟨A3, sv3, id, e, rfl, .inr ⟨tf, i, rfl, hi, .inr (.inr ⟨A1, A2, x, y, hm1, hm2, hm.made tx t1 hm2.ok.there⟩)⟩, hok3, (H.turnBy 0 rfl ht).outTurn⟩
end Go.Proofs.Ytjebpngdinbckaa
end

section
/- Decision diagrams: Set. -/
namespace Go.Proofs.Ytjebpngdinbckaa
open Go.Dk
attribute [local irreducible] IntKind.wrap

theorem mkSet_full {f : Nat → Bool} {n : Nat} (hn : n ≤ 256) : mkSet f n = setOf fun p => decide (p < n) && f p := by
  refine set_ext (Nat.lt_of_lt_of_le (mkSet_lt _ _) (Nat.pow_le_pow_right (by decide) hn)) (setOf_lt _) fun p hp => ?_
  rw [testBit_mkSet, testBit_setOf, decide_eq_true hp, Bool.true_and]
theorem mkSet_or' (f : Nat → Bool) (k : Nat) : mkSet f (k + 1) = if f k then mkSet f k ||| 2 ^ k else mkSet f k := by
  have hlt := mkSet_lt f k
  have e : mkSet f k + 2 ^ k = mkSet f k ||| 2 ^ k := by
    rw [Nat.or_comm]
    have := Nat.two_pow_add_eq_or_of_lt hlt 1
    simp at this
    omega
  simp only [mkSet]
  split
  · exact e
  · rfl
theorem ent110 : enters Try.prog 110 = true := by kernel_rfl
theorem c110 {o : List Nat} (hn : o.length ≤ 8) {g ga r co : Nat} {B : Option Addr} {room : Int} {A : Ar} {sv0 : Value} (f : Int) (hf : f < 9223372036854775808) (w : World) (hA : BInv o.length A) (hol : ∀ k, k < o.length → o.getD k 0 < 8) (hok : ArOk room A) (hb : ∀ s ∈ bdM g ga co B o, s.ok w) (hlt : ∀ s ∈ bdM g ga co B o, ∀ x, s.foot x → x < w.heap.size) (har : (arR ga r sv0 room A).ok w) :
    Fun Try.prog 110 [.pointer (some ⟨g, 0, none⟩), .int .i64 f] w fun v w' => v = (if 0 ≤ lvlA A f then .tuple #[sv (setD o A f), .int .i64 0] else .tuple #[sv 0, .int .i64 1]) ∧ Same w w' := by
  refine fun_of_W (N := 62) Try.func110 ent110 rfl rfl rfl (by simp) ?_
  have H := Hp.start w (fun _ => False) (bdM g ga co B o ++ [arR ga r sv0 room A]) (fun s hs => by
    rcases List.mem_append.1 hs with hs | hs
    · exact hb s hs
    · rw [List.mem_singleton] at hs; subst hs; exact har) (fun s hs => by
    rcases List.mem_append.1 hs with hs | hs
    · exact hlt s hs
    · rw [List.mem_singleton] at hs; subst hs; exact arR_lt har)
  refine cut_rule (γ := Nat) _ rfl (fun g4 => [(4, .pointer (some ⟨g4, 0, none⟩)), (5, .int .i64 0)]) (fun g4 w' => Hp w (fun _ => False) w' [blk g4 24 (sc 0)] (bdM g ga co B o ++ [arR ga r sv0 room A])) ?_ ?_
  · refine H.alloc 24 (cs := sc 0) zero24 sc_zero ?_
    clear H
    intro g4 w1 H
    exact ⟨g4, ⟨rfl, rfl, trivial⟩, H⟩
  clear H
  rintro g4 u w1 H
  replace H : Hp _ _ _ _ _ := H
  refine cut_rule (γ := Unit) _ rfl (fun _ => []) (fun _ w' => 0 ≤ lvlA A f ∧ Hp w (fun _ => False) w' [blk g4 24 (sc 0)] (bdM g ga co B o ++ [arR ga r sv0 room A])) ?_ ?_
  · refine H.buildOne T32 rfl ?_
    clear H
    intro g5 w2 H
    refine call_fn (c184 (n := o.length) (c := co) (B := B) [f] (some ⟨g5, 0, none⟩) 1 (by show 1 ≤ 1000000000; omega) (fun id hid => by rw [List.mem_singleton] at hid; subst hid; exact hf) _ (H.ro 0 rfl) (H.ro 2 rfl) (blkN_Sl (H.get 0 rfl) (blk_lt (H.get 0 rfl)) rfl (by show 1 ≤ maxLen; decide))) ?_
    rintro _ w3 ⟨rfl, hk⟩
    replace H := H.same hk
    clear hk
    by_cases ht : 0 ≤ lvlA A f
    · have : ([f].all fun id => decide (0 ≤ lvlA A id)) = true := by simp [ht]
      rw [this]
      refine cond_no rfl ?_
      exact ⟨(), trivial, ht, H.forget⟩
    · have : ([f].all fun id => decide (0 ≤ lvlA A id)) = false := by simp; omega
      rw [this]
      refine cond_yes rfl ?_
      refine build24z ?_
      refine H.storeSet 1 rfl ?_
      clear H
      intro w8 H
      refine H.loadAll 1 rfl agg24 size24 ?_
      refine ⟨rfl, ?_⟩
      exact ⟨by rw [if_neg ht]; rfl, H.keeps⟩
  clear H
  rintro ⟨⟩ u w2 ⟨tf, H⟩
  replace H : Hp _ _ _ _ _ := H
  have h2 := pow_le_256 hn
  refine cut_rule (γ := Nat) _ rfl (fun g6 => [(6, .pointer (some ⟨g6, 0, none⟩))]) (fun g6 w' => Hp w (fun _ => False) w' [blk g6 24 (sc 0), blk g4 24 (sc 0)] (bdM g ga co B o ++ [arR ga r sv0 room A])) ?_ ?_
  · refine H.alloc 24 (cs := sc 0) zero24 sc_zero ?_
    clear H
    intro g6 w3 H
    exact ⟨g6, ⟨rfl, trivial⟩, H⟩
  clear H
  rintro g6 u w3 H
  replace H : Hp _ _ _ _ _ := H
  refine cut_rule (γ := Unit) _ rfl (fun _ => []) (fun _ w' => Hp w (fun _ => False) w' [blk g6 24 (sc (mkSet (fun p => sem A f (asgP o p)) (2 ^ o.length))), blk g4 24 (sc 0)] (bdM g ga co B o ++ [arR ga r sv0 room A])) ?_ ?_
  · refine fieldAddr_by (fa213_0 _) ?_
    refine ld_blk (H.ro 0 rfl) agg32 rfl ?_
    refine len_sl Try.underlying32 ?_
    refine bin_shl_i64 (x := 1) (n := o.length) (by omega) (by omega) ?_
    rw [Nat.one_mul]
    refine loop_rule (γ := Nat) _ rfl (fun p => [(25, .int .i64 (p : Int))]) (fun p w' => p ≤ 2 ^ o.length ∧ Hp w (fun _ => False) w' [blk g6 24 (sc (mkSet (fun p => sem A f (asgP o p)) p)), blk g4 24 (sc 0)] (bdM g ga co B o ++ [arR ga r sv0 room A])) (fun p => 2 ^ o.length - p) 0 ⟨rfl, trivial⟩ ⟨Nat.zero_le _, H⟩ ?_
    clear H
    rintro p u w4 ⟨hp, H⟩
    replace H : Hp _ _ _ _ _ := H
    generalize hN : 2 ^ o.length = N at hp h2 ⊢
    refine cond_dec (fun h7 => ?_) (fun h7 => ?_)
    · have hor := mkSet_or' (fun p => sem A f (asgP o p)) p
      refine cut_rule (γ := Unit) _ rfl (fun _ => []) (fun _ w' => Hp w (fun _ => False) w' [blk g6 24 (sc (mkSet (fun p => sem A f (asgP o p)) (p + 1))), blk g4 24 (sc 0)] (bdM g ga co B o ++ [arR ga r sv0 room A])) ?_ ?_
      · refine cut_rule (γ := Unit) _ rfl (fun _ => [(7, .int .i64 (p : Int))]) (fun _ w' => Hp w (fun _ => False) w' [blk g6 24 (sc (mkSet (fun p => sem A f (asgP o p)) p)), blk g4 24 (sc 0)] (bdM g ga co B o ++ [arR ga r sv0 room A])) ⟨(), ⟨rfl, trivial⟩, H⟩ ?_
        clear H
        rintro ⟨⟩ u w5 H
        replace H : Hp _ _ _ _ _ := H
        refine cut_rule (γ := Unit) _ rfl (fun _ => [(8, .int .i64 f)]) (fun _ w' => Hp w (fun _ => False) w' [blk g6 24 (sc (mkSet (fun p => sem A f (asgP o p)) p)), blk g4 24 (sc 0)] (bdM g ga co B o ++ [arR ga r sv0 room A])) ⟨(), ⟨rfl, trivial⟩, H⟩ ?_
        clear H
        rintro ⟨⟩ u w5 H
        replace H : Hp _ _ _ _ _ := H
        refine cut_rule (γ := Unit) _ rfl (fun _ => [(8, .int .i64 (if sem A f (asgP o p) then 1 else 0))]) (fun _ w' => Hp w (fun _ => False) w' [blk g6 24 (sc (mkSet (fun p => sem A f (asgP o p)) p)), blk g4 24 (sc 0)] (bdM g ga co B o ++ [arR ga r sv0 room A])) ?_ ?_
        · refine loop_rule (γ := Int) _ rfl (fun x => [(8, .int .i64 x)]) (fun x w' => (0 ≤ lvlA A x ∧ sem A x (asgP o p) = sem A f (asgP o p)) ∧ Hp w (fun _ => False) w' [blk g6 24 (sc (mkSet (fun p => sem A f (asgP o p)) p)), blk g4 24 (sc 0)] (bdM g ga co B o ++ [arR ga r sv0 room A])) (fun x => (24 - lvlA A x).toNat) f ⟨rfl, trivial⟩ ⟨⟨tf, rfl⟩, H⟩ ?_
          clear H
          rintro x u w6 ⟨⟨tx, hsx⟩, H⟩
          replace H : Hp _ _ _ _ _ := H
          have hxl := id_lt hok tx
          cases hd : ndA A x with
          | none =>
            have hx := nd_none hd tx
            refine cond_no (decide_eq_false (by omega)) ?_
            rw [← hsx, sem_none hd]
            refine ⟨(), ⟨?_, trivial⟩, H⟩
            show Value.int .i64 x = _
            rcases hx with rfl | rfl <;> rfl
          | some d =>
            have hl := nd_lvl hd
            have hlev := lev_of hA.inv hd
            have hle0 := lvlA_le hA.inv d.lo
            have hle1 := lvlA_le hA.inv d.hi
            obtain ⟨i, hxi, hs⟩ := nd_place hd
            have hdn := hA.lt i d hs
            have hod := hol d.l hdn
            have hsn := sem_node hA.inv hd (asgP o p)
            have hag : asgP o p d.l = p.testBit (o.getD d.l 0) := by unfold asgP; rw [decide_eq_true hdn, Bool.true_and]
            have hlk : lookV A x = .tuple #[.int .i64 d.l, .int .i64 d.lo, .int .i64 d.hi, .bool true] := by unfold lookV; rw [hd]
            have hc := fun w1 h => c72 (g := ga) (r := r) (sv := sv0) (room := room) (A := A) x (by omega) w1 h
            rw [hlk] at hc
            have hget := intsN_get hdn
            obtain ⟨gB, rfl⟩ := own_base (H.ro 1 rfl) (by omega)
            refine cond_yes (decide_eq_true (by omega)) ?_
            refine fieldAddr_by (fa213_1 _) ?_
            refine ld_blk (H.ro 0 rfl) agg59 rfl ?_
            refine call_fn (hc _ (H.ro 2 rfl)) ?_
            rintro _ w7 ⟨rfl, hk⟩
            replace H := H.same hk
            clear hk
            refine fieldAddr_by (fa213_0 _) ?_
            refine ld_blk (H.ro 0 rfl) agg32 rfl ?_
            refine idxAddr_sl Try.underlying32 (s := 1) size3 d.l rfl hdn (o' := d.l) (by omega) ?_
            refine load_cell agg3 ((own_cell (H.ro 1 rfl) d.l (by omega)).trans hget) ?_
            refine bin_shr_i64 (by omega) ?_
            refine bin_and_i64 (b := 1) (Nat.lt_of_le_of_lt (Nat.div_le_self _ _) (by omega)) (by omega) ?_
            rw [hag] at hsn
            refine cond_split (fun hb => ?_) (fun hb => ?_)
            · rw [testBit_and_one] at hb
              rw [hb, if_pos rfl] at hsn
              exact ⟨(d.hi : Int), by show (24 - lvlA A d.hi).toNat < (24 - lvlA A x).toNat; omega, ⟨rfl, trivial⟩, ⟨by omega, hsn.symm.trans hsx⟩, H⟩
            · rw [testBit_and_one] at hb
              rw [hb, if_neg (by decide)] at hsn
              exact ⟨(d.lo : Int), by show (24 - lvlA A d.lo).toNat < (24 - lvlA A x).toNat; omega, ⟨rfl, trivial⟩, ⟨by omega, hsn.symm.trans hsx⟩, H⟩
        clear H
        rintro ⟨⟩ u w6 H
        replace H : Hp _ _ _ _ _ := H
        cases hb : sem A f (asgP o p) with
        | true =>
          rw [hb] at hor
          refine cond_yes rfl ?_
          refine H.loadAll 0 rfl agg24 size24 ?_
          refine call_fn (c46_yes _ _ (by first | assumption | omega | decide) _) ?_
          rintro _ w10 ⟨rfl, hk⟩
          replace H := H.same hk
          clear hk
          refine H.storeSet 0 rfl ?_
          clear H
          intro w11 H
          exact ⟨(), trivial, by rw [hor, if_pos rfl]; exact H⟩
        | false =>
          rw [hb] at hor
          refine cond_no rfl ?_
          exact ⟨(), trivial, by rw [hor, if_neg (by decide)]; exact H⟩
      · clear H
        rintro ⟨⟩ u w5 H
        exact ⟨p + 1, by show N - (p + 1) < N - p; omega, ⟨up (by omega), trivial⟩, by show p + 1 ≤ N; omega, H⟩
    · obtain rfl : p = N := by omega
      exact ⟨(), trivial, H⟩
  clear H
  rintro ⟨⟩ u w4 H
  replace H : Hp _ _ _ _ _ := H
  have hset : mkSet (fun p => sem A f (asgP o p)) (2 ^ o.length) = setD o A f := mkSet_full h2
  rw [hset] at H
  rw [if_pos tf]
  refine H.loadAll 0 rfl agg24 size24 ?_
  refine H.storeSet 1 rfl ?_
  clear H
  intro w7 H
  refine H.loadAll 1 rfl agg24 size24 ?_
  refine ⟨rfl, ?_⟩
  exact ⟨rfl, H.keeps⟩
theorem c110b {o : List Nat} (ho : OrdO o) {g ga r co : Nat} {B : Option Addr} {room : Int} {A : Ar} {sv0 : Value} (f : Int) (hf : f < 9223372036854775808) (w : World) (hA : BInv o.length A) (hok : ArOk room A) (hbd : BdAt w g ga r co B o sv0 room A) :
    Fun Try.prog 110 [.pointer (some ⟨g, 0, none⟩), .int .i64 f] w fun v w' => v = (if 0 ≤ lvlA A f then .tuple #[sv (setD o A f), .int .i64 0] else .tuple #[sv 0, .int .i64 1]) ∧ Same w w' :=
  c110 ho.le f hf w hA (fun k hk => by have := ho.get_lt hk; have := ho.le; omega) hok hbd.head hbd.lt hbd.ar
end Go.Proofs.Ytjebpngdinbckaa
end

section
/- The reference's row and turns. -/
namespace Go.Proofs.Ytjebpngdinbckaa
open Go.Dk
attribute [local irreducible] IntKind.wrap

theorem add_pow_or {x m : Nat} (h : x.testBit m = false) : x + 2 ^ m = x ||| 2 ^ m := by
  have h1 := Nat.div_add_mod x (2 ^ (m + 1))
  have hr : x % 2 ^ (m + 1) < 2 ^ m := by
    have hlt : x % 2 ^ (m + 1) < 2 ^ (m + 1) := Nat.mod_lt _ (Nat.pow_pos (by decide))
    refine Nat.lt_pow_two_of_testBit _ fun i hi => ?_
    rcases Nat.eq_or_lt_of_le hi with rfl | hi
    · rw [Nat.testBit_mod_two_pow, h, Bool.and_false]
    · exact Nat.testBit_lt_two_pow (Nat.lt_of_lt_of_le hlt (Nat.pow_le_pow_right (by decide) hi))
  generalize x / 2 ^ (m + 1) = q at h1
  generalize x % 2 ^ (m + 1) = r at h1 hr
  have h3 : r + 2 ^ m < 2 ^ (m + 1) := by rw [Nat.pow_succ]; omega
  have h4 : r < 2 ^ (m + 1) := by rw [Nat.pow_succ]; omega
  have e1 := Nat.two_pow_add_eq_or_of_lt h3 q
  have e2 := Nat.two_pow_add_eq_or_of_lt h4 q
  have e3 := Nat.two_pow_add_eq_or_of_lt hr 1
  rw [Nat.mul_one] at e3
  rw [← h1, Nat.add_assoc, e1, e2, Nat.or_assoc, Nat.add_comm r, e3, Nat.or_comm (2 ^ m) r]
/-- A point out of what its levels are. -/
def ptTo (o : List Nat) (a : Asg) : Nat → Nat
  | 0 => 0
  | k + 1 => ptTo o a k + (if a k then 2 ^ o.getD k 0 else 0)
theorem testBit_ptTo {o : List Nat} (ho : OrdO o) (a : Asg) : ∀ k, k ≤ o.length → ∀ i, (ptTo o a k).testBit i = true ↔ ∃ j, j < k ∧ o.getD j 0 = i ∧ a j = true
  | 0, _, i => by simp [ptTo]
  | k + 1, hk, i => by
    have ih := testBit_ptTo ho a k (by omega)
    have hno : (ptTo o a k).testBit (o.getD k 0) = false := by
      rw [Bool.eq_false_iff]
      intro h
      obtain ⟨j, hj, he, _⟩ := (ih _).1 h
      have := ho.inj (show j < o.length by omega) (show k < o.length by omega) he
      omega
    simp only [ptTo]
    cases ha : a k with
    | true =>
      rw [if_pos rfl, add_pow_or hno, Nat.testBit_or, Nat.testBit_two_pow, Bool.or_eq_true, ih, decide_eq_true_eq]
      constructor
      · rintro (⟨j, hj, h1, h2⟩ | h)
        · exact ⟨j, by omega, h1, h2⟩
        · exact ⟨k, by omega, h, ha⟩
      · rintro ⟨j, hj, h1, h2⟩
        rcases Nat.lt_succ_iff_lt_or_eq.1 hj with h | h
        · exact .inl ⟨j, h, h1, h2⟩
        · subst h; exact .inr h1
    | false =>
      rw [if_neg (by decide), Nat.add_zero, ih]
      constructor
      · rintro ⟨j, hj, h1, h2⟩
        exact ⟨j, by omega, h1, h2⟩
      · rintro ⟨j, hj, h1, h2⟩
        rcases Nat.lt_succ_iff_lt_or_eq.1 hj with h | h
        · exact ⟨j, h, h1, h2⟩
        · subst h; rw [ha] at h2; cases h2
theorem ptTo_lt {o : List Nat} (ho : OrdO o) (a : Asg) {k : Nat} (hk : k ≤ o.length) : ptTo o a k < 2 ^ o.length := by
  refine Nat.lt_pow_two_of_testBit _ fun i hi => ?_
  rw [Bool.eq_false_iff]
  intro h
  obtain ⟨j, hj, he, _⟩ := (testBit_ptTo ho a k hk i).1 h
  have := ho.get_lt (show j < o.length by omega)
  omega
theorem ptTo_eq {o : List Nat} (ho : OrdO o) (a : Asg) : ptTo o a o.length = ptA o a := by
  refine Nat.eq_of_testBit_eq fun i => ?_
  rw [Bool.eq_iff_iff, testBit_ptTo ho a _ (Nat.le_refl _)]
  unfold ptA
  rw [testBit_mkSet, Bool.and_eq_true, decide_eq_true_eq]
  constructor
  · rintro ⟨j, hj, rfl, ha⟩
    exact ⟨ho.get_lt hj, by rw [ho.idx_get hj]; exact ha⟩
  · rintro ⟨hi, ha⟩
    exact ⟨o.idxOf i, ho.idx_lt hi, ho.get_idx hi, ha⟩
def encB (r : List Bool) : List UInt8 := r.map fun b => if b then 49 else 48
theorem encB_length (r : List Bool) : (encB r).length = r.length := by simp [encB]
theorem encB_inj {r t : List Bool} (h : encB r = encB t) : r = t := by
  unfold encB at h
  refine (List.map_inj_right fun a b hab => ?_).1 h
  cases a <;> cases b <;> first | rfl | (exact absurd hab (by decide))
theorem ent185 : enters Try.prog 185 = true := by kernel_rfl
theorem c185 {o : List Nat} (ho : OrdO o) (s place ahead : Nat) (hp : place ≤ o.length) (ha : ahead < 4611686018427387904) (A B : Option Addr) (ca co : Nat) (w : World)
    (hS : Sl w (.slice A 256 ca) 1 256 (bls (flagsN s))) (hO : Sl w (.slice B o.length co) 1 o.length (intsN o)) :
    Fun Try.prog 185 [.slice A 256 ca, .slice B o.length co, .int .i64 (place : Int), .int .i64 (ahead : Int)] w fun v w' => v = strV (encB (rowS o s place ahead)) ∧ Same w w' := by
  refine fun_of_W (N := 76) Try.func185 ent185 rfl rfl rfl (by simp) ?_
  have H := Hp.start0 w
  have hn := ho.le
  refine cut_rule (γ := Unit) _ rfl (fun _ => []) (fun _ w' => Hp w (fun _ => False) w' [] []) ⟨(), trivial, H⟩ ?_
  clear H
  rintro ⟨⟩ u w0 H
  replace H : Hp _ _ _ _ _ := H
  refine cut_rule (γ := Unit) _ rfl (fun _ => [(9, .int .i64 ((o.length - place : Nat) : Int))]) (fun _ w' => Hp w (fun _ => False) w' [] []) ?_ ?_
  · refine len_sl Try.underlying32 ?_
    exact ⟨(), ⟨congrArg (Value.int .i64) (by rw [wrap_i64_in (by omega) (by omega)]; omega), trivial⟩, H⟩
  clear H
  rintro ⟨⟩ u w1 H
  replace H : Hp _ _ _ _ _ := H
  generalize hN : o.length - place = n
  refine cut_rule (γ := Unit) _ rfl (fun _ => [(10, strV [])]) (fun _ w' => Hp w (fun _ => False) w' [] []) ⟨(), ⟨rfl, trivial⟩, H⟩ ?_
  clear H
  rintro ⟨⟩ u w1 H
  replace H : Hp _ _ _ _ _ := H
  refine cut_rule (γ := Unit) _ rfl (fun _ => [(11, .int .i64 1)]) (fun _ w' => Hp w (fun _ => False) w' [] []) ⟨(), ⟨rfl, trivial⟩, H⟩ ?_
  clear H
  rintro ⟨⟩ u w1 H
  replace H : Hp _ _ _ _ _ := H
  have hpow : ∀ i, i ≤ 8 → 2 ^ i ≤ 256 := fun i hi => pow_le_256 hi
  refine cut_rule (γ := Unit) _ rfl (fun _ => [(11, .int .i64 ((2 ^ n : Nat) : Int))]) (fun _ w' => Hp w (fun _ => False) w' [] []) ?_ ?_
  · refine loop_rule (γ := Nat) _ rfl (fun i => [(12, .int .i64 (i : Int)), (11, .int .i64 ((2 ^ i : Nat) : Int))]) (fun i w' => i ≤ n ∧ Hp w (fun _ => False) w' [] []) (fun i => n - i) 0 ⟨rfl, rfl, trivial⟩ ⟨Nat.zero_le _, H⟩ ?_
    clear H
    rintro i u w2 ⟨hi, H⟩
    replace H : Hp _ _ _ _ _ := H
    refine cond_dec (fun h7 => ?_) (fun h7 => ?_)
    · have h2 := hpow i (by omega)
      have e : 2 ^ (i + 1) = 2 ^ i * 2 := Nat.pow_succ ..
      exact ⟨i + 1, by show n - (i + 1) < n - i; omega, ⟨up (by omega), congrArg (Value.int .i64) (by rw [wrap_i64_in (by omega) (by omega)]; omega), trivial⟩, by show i + 1 ≤ n; omega, H⟩
    · obtain rfl : i = n := by omega
      exact ⟨(), ⟨rfl, trivial⟩, H⟩
  clear H
  rintro ⟨⟩ u w2 H
  replace H : Hp _ _ _ _ _ := H
  have hmany := hpow n (by omega)
  have hrow : rowS o s place ahead = (List.range (2 ^ n)).map fun x => s.testBit (ptA o (mixA place (fun j => ahead.testBit j) (shA place x))) := by
    unfold rowS rowF; rw [hN]; rfl
  rw [hrow]
  generalize 2 ^ n = many at hmany ⊢
  refine cut_rule (γ := Unit) _ rfl (fun _ => [(10, strV (encB ((List.range many).map fun x => s.testBit (ptA o (mixA place (fun j => ahead.testBit j) (shA place x))))))]) (fun _ w' => Hp w (fun _ => False) w' [] []) ?_ ?_
  · refine loop_rule (γ := Nat) _ rfl (fun x => [(13, .int .i64 (x : Int)), (10, strV (encB ((List.range x).map fun x => s.testBit (ptA o (mixA place (fun j => ahead.testBit j) (shA place x))))))]) (fun x w' => x ≤ many ∧ Hp w (fun _ => False) w' [] []) (fun x => many - x) 0 ⟨rfl, rfl, trivial⟩ ⟨Nat.zero_le _, H⟩ ?_
    clear H
    rintro x u w3 ⟨hx, H⟩
    replace H : Hp _ _ _ _ _ := H
    refine cond_dec (fun h7 => ?_) (fun h7 => ?_)
    · refine cut_rule (γ := Unit) _ rfl (fun _ => [(10, strV (encB ((List.range (x + 1)).map fun x => s.testBit (ptA o (mixA place (fun j => ahead.testBit j) (shA place x))))))]) (fun _ w' => Hp w (fun _ => False) w' [] []) ?_ ?_
      · refine cut_rule (γ := Unit) _ rfl (fun _ => [(14, .int .i64 0)]) (fun _ w' => Hp w (fun _ => False) w' [] []) ⟨(), ⟨rfl, trivial⟩, H⟩ ?_
        clear H
        rintro ⟨⟩ u w4 H
        replace H : Hp _ _ _ _ _ := H
        generalize hb : mixA place (fun j => ahead.testBit j) (shA place x) = b
        have hpl : ∀ k, k ≤ o.length → ptTo o b k < 256 := fun k hk => Nat.lt_of_lt_of_le (ptTo_lt ho b hk) (hpow _ hn)
        refine cut_rule (γ := Unit) _ rfl (fun _ => [(14, .int .i64 ((ptA o b : Nat) : Int))]) (fun _ w' => Hp w (fun _ => False) w' [] []) ?_ ?_
        · refine loop_rule (γ := Nat) _ rfl (fun k => [(15, .int .i64 (k : Int)), (14, .int .i64 ((ptTo o b k : Nat) : Int))]) (fun k w' => k ≤ o.length ∧ Hp w (fun _ => False) w' [] []) (fun k => o.length - k) 0 ⟨rfl, rfl, trivial⟩ ⟨Nat.zero_le _, H⟩ ?_
          clear H
          rintro k u w5 ⟨hk, H⟩
          replace H : Hp _ _ _ _ _ := H
          refine len_sl Try.underlying32 ?_
          refine cond_dec (fun h9 => ?_) (fun h9 => ?_)
          · have hkn : k < o.length := by omega
            have hok := ho.get_lt hkn
            have hget := intsN_get hkn
            obtain ⟨g2, o2, rfl⟩ := hO.A (by omega)
            refine cut_rule (γ := Unit) _ rfl (fun _ => [(14, .int .i64 ((ptTo o b (k + 1) : Nat) : Int))]) (fun _ w' => Hp w (fun _ => False) w' [] []) ?_ ?_
            · refine cut_rule (γ := Unit) _ rfl (fun _ => [(16, .int .i64 ((ahead / 2 ^ k % 2 : Nat) : Int))]) (fun _ w' => Hp w (fun _ => False) w' [] []) ?_ ?_
              · refine call_fn (c48 ahead k (by omega) (by omega) _) ?_
                rintro _ w6 ⟨rfl, hk6⟩
                exact ⟨(), ⟨rfl, trivial⟩, H.same hk6⟩
              clear H
              rintro ⟨⟩ u w6 H
              replace H : Hp _ _ _ _ _ := H
              have hbk : b k = if k < place then ahead.testBit k else x.testBit (k - place) := by rw [← hb]; rfl
              refine cut_rule (γ := Unit) _ rfl (fun _ => [(16, .int .i64 (if b k then 1 else 0))]) (fun _ w' => Hp w (fun _ => False) w' [] []) ?_ ?_
              · by_cases hkp : k < place
                · rw [if_pos hkp] at hbk
                  refine cond_no (decide_eq_false (by omega)) ?_
                  have hbit : ((ahead / 2 ^ k % 2 : Nat) : Int) = if b k then 1 else 0 := by rw [bit_mod, hbk]; cases ahead.testBit k <;> rfl
                  exact ⟨(), ⟨congrArg (Value.int .i64) hbit, trivial⟩, H⟩
                · rw [if_neg hkp] at hbk
                  refine cond_yes (decide_eq_true (by omega)) ?_
                  have hwk : IntKind.i64.wrap ((k : Int) - place) = ((k - place : Nat) : Int) := by rw [wrap_i64_in (by omega) (by omega)]; omega
                  have hc := c48 x (k - place) (by omega) (by omega) w6
                  rw [← hwk] at hc
                  refine call_fn hc ?_
                  rintro _ w7 ⟨rfl, hk7⟩
                  have hbit : ((x / 2 ^ (k - place) % 2 : Nat) : Int) = if b k then 1 else 0 := by rw [bit_mod, hbk]; cases x.testBit (k - place) <;> rfl
                  exact ⟨(), ⟨congrArg (Value.int .i64) hbit, trivial⟩, H.same hk7⟩
              clear H
              rintro ⟨⟩ u w7 H
              replace H : Hp _ _ _ _ _ := H
              refine cut_rule (γ := Unit) _ rfl (fun _ => [(17, .int .i64 1)]) (fun _ w' => Hp w (fun _ => False) w' [] []) ⟨(), ⟨rfl, trivial⟩, H⟩ ?_
              clear H
              rintro ⟨⟩ u w7 H
              replace H : Hp _ _ _ _ _ := H
              generalize hm : o.getD k 0 = m at hok hget
              refine cut_rule (γ := Unit) _ rfl (fun _ => [(17, .int .i64 ((2 ^ m : Nat) : Int))]) (fun _ w' => Hp w (fun _ => False) w' [] []) ?_ ?_
              · refine loop_rule (γ := Nat) _ rfl (fun i => [(18, .int .i64 (i : Int)), (17, .int .i64 ((2 ^ i : Nat) : Int))]) (fun i w' => i ≤ m ∧ Hp w (fun _ => False) w' [] []) (fun i => m - i) 0 ⟨rfl, rfl, trivial⟩ ⟨Nat.zero_le _, H⟩ ?_
                clear H
                rintro i u w8 ⟨hi, H⟩
                replace H : Hp _ _ _ _ _ := H
                refine idxAddr_sl Try.underlying32 (s := 1) size3 k rfl hkn (o' := o2 + k) (by omega) ?_
                refine H.loadSl (i := k) hO agg3 _ rfl hget ?_
                refine cond_dec (fun h11 => ?_) (fun h11 => ?_)
                · have h2 := hpow i (by omega)
                  have e : 2 ^ (i + 1) = 2 ^ i * 2 := Nat.pow_succ ..
                  exact ⟨i + 1, by show m - (i + 1) < m - i; omega, ⟨up (by omega), congrArg (Value.int .i64) (by rw [wrap_i64_in (by omega) (by omega)]; omega), trivial⟩, by show i + 1 ≤ m; omega, H⟩
                · obtain rfl : i = m := by omega
                  exact ⟨(), ⟨rfl, trivial⟩, H⟩
              clear H
              rintro ⟨⟩ u w8 H
              replace H : Hp _ _ _ _ _ := H
              have hl1 := hpl k hk
              have h2 := hpow m (by omega)
              have hs1 : ptTo o b (k + 1) = ptTo o b k + if b k then 2 ^ m else 0 := by rw [← hm]; rfl
              rw [hs1]
              refine ⟨(), ⟨congrArg (Value.int .i64) ?_, trivial⟩, H⟩
              generalize 2 ^ m = q at h2
              cases b k
              · simp only [Bool.false_eq_true, if_false, Nat.add_zero, Int.zero_mul]
                rw [wrap_i64_in (x := 0) (by omega) (by omega), wrap_i64_in (by omega) (by omega)]; omega
              · simp only [if_true, Int.one_mul]
                rw [wrap_i64_in (x := (q : Int)) (by omega) (by omega), wrap_i64_in (by omega) (by omega)]; omega
            · clear H
              rintro ⟨⟩ u w6 H
              exact ⟨k + 1, by show o.length - (k + 1) < o.length - k; omega, ⟨up (by omega), rfl, trivial⟩, by show k + 1 ≤ o.length; omega, H⟩
          · obtain rfl : k = o.length := by omega
            rw [← ptTo_eq ho]
            exact ⟨(), ⟨rfl, trivial⟩, H⟩
        clear H
        rintro ⟨⟩ u w5 H
        replace H : Hp _ _ _ _ _ := H
        have hpt : ptA o b < 256 := by rw [← ptTo_eq ho]; exact hpl _ (Nat.le_refl _)
        have hsn : encB ((List.range (x + 1)).map fun x => s.testBit (ptA o (mixA place (fun j => ahead.testBit j) (shA place x)))) = encB ((List.range x).map fun x => s.testBit (ptA o (mixA place (fun j => ahead.testBit j) (shA place x)))) ++ [if s.testBit (ptA o b) then 49 else 48] := by
          rw [List.range_succ, List.map_append, List.map_cons, List.map_nil, hb]; unfold encB; rw [List.map_append]; rfl
        have hel : (encB ((List.range x).map fun x => s.testBit (ptA o (mixA place (fun j => ahead.testBit j) (shA place x))))).length = x := by rw [encB_length]; simp
        rw [hsn]
        obtain ⟨g1, o1, rfl⟩ := hS.A (by omega)
        refine idxAddr_sl Try.underlying29 (s := 1) size4 (ptA o b) rfl hpt (o' := o1 + ptA o b) (by omega) ?_
        refine H.loadSl (i := ptA o b) hS agg4 _ rfl (flagsN_get hpt) ?_
        cases s.testBit (ptA o b) with
        | true =>
          refine cond_yes rfl ?_
          refine bin_add_str (b := [49]) (by rw [hel]; show x + 1 < _; omega) ?_
          exact ⟨(), ⟨rfl, trivial⟩, H⟩
        | false =>
          refine cond_no rfl ?_
          refine bin_add_str (b := [48]) (by rw [hel]; show x + 1 < _; omega) ?_
          exact ⟨(), ⟨rfl, trivial⟩, H⟩
      · clear H
        rintro ⟨⟩ u w4 H
        exact ⟨x + 1, by show many - (x + 1) < many - x; omega, ⟨up (by omega), rfl, trivial⟩, by show x + 1 ≤ many; omega, H⟩
    · obtain rfl : x = many := by omega
      exact ⟨(), ⟨rfl, trivial⟩, H⟩
  clear H
  rintro ⟨⟩ u w3 H
  replace H : Hp _ _ _ _ _ := H
  exact ⟨rfl, H.keeps⟩
theorem encB_get {r : List Bool} {i : Nat} (h : i < (encB r).length) : (encB r)[i] = if r.getD i false then 49 else 48 := by
  have h' := h
  rw [encB_length] at h'
  simp [encB, List.getElem?_eq_getElem h']
theorem ent186 : enters Try.prog 186 = true := by kernel_rfl
theorem c186 (r : List Bool) (hr : r.length ≤ 1000000) (hev : r.length % 2 = 0) (w : World) : Fun Try.prog 186 [strV (encB r)] w fun v w' => v = .bool (turnsB r) ∧ Same w w' := by
  refine fun_of_W (N := 19) Try.func186 ent186 rfl rfl rfl (by simp) ?_
  have H := Hp.start0 w
  have hel := encB_length r
  refine cut_rule (γ := Unit) _ rfl (fun _ => []) (fun _ w' => Hp w (fun _ => False) w' [] []) ⟨(), trivial, H⟩ ?_
  clear H
  rintro ⟨⟩ u w0 H
  replace H : Hp _ _ _ _ _ := H
  refine cut_rule (γ := Unit) _ rfl (fun _ => []) (fun _ w' => (∀ t, t < r.length / 2 → r.getD (2 * t) false = r.getD (2 * t + 1) false) ∧ Hp w (fun _ => False) w' [] []) ?_ ?_
  · refine loop_rule (γ := Nat) _ rfl (fun t => [(3, .int .i64 ((2 * t : Nat) : Int))]) (fun t w' => (2 * t ≤ r.length ∧ ∀ t', t' < t → r.getD (2 * t') false = r.getD (2 * t' + 1) false) ∧ Hp w (fun _ => False) w' [] []) (fun t => r.length - 2 * t) 0 ⟨rfl, trivial⟩ ⟨⟨Nat.zero_le _, fun t h => by omega⟩, H⟩ ?_
    clear H
    rintro t u w1 ⟨⟨ht, hall⟩, H⟩
    replace H : Hp _ _ _ _ _ := H
    have hw1 : IntKind.i64.wrap (((2 * t : Nat) : Int) + 1) = ((2 * t + 1 : Nat) : Int) := by rw [wrap_i64_in (by omega) (by omega)]; omega
    by_cases h3 : 2 * t + 1 < r.length
    · refine len_str Try.underlying9 ?_
      refine cond_yes (decide_eq_true (by rw [hw1]; show ((2 * t + 1 : Nat) : Int) < ((encB r).length : Int); omega)) ?_
      refine H.draw fol (by kernel_rfl) ?_
      clear H
      intro w4 H
      refine quiet _ (fun w H => idx_strL (i := 2 * t) (by omega) Try.underlying9 ⟨rfl, rfl⟩) ?_
      refine quiet _ (fun w H => by rw [hw1]; exact idx_strL (i := 2 * t + 1) (by omega) Try.underlying9 ⟨rfl, rfl⟩) ?_
      rw [encB_get, encB_get]
      refine cond_bne (fun hne => ?_) (fun he => ?_)
      · have : turnsB r = true := by
          unfold turnsB
          refine List.any_eq_true.2 ⟨t, List.mem_range.2 (by omega), ?_⟩
          cases h1 : r.getD (2 * t) false <;> cases h2 : r.getD (2 * t + 1) false <;> first | rfl | (rw [h1, h2] at hne; exact absurd rfl hne)
        rw [this]
        exact ⟨rfl, H.keeps⟩
      · have he' : r.getD (2 * t) false = r.getD (2 * t + 1) false := by
          cases h1 : r.getD (2 * t) false <;> cases h2 : r.getD (2 * t + 1) false <;> first | rfl | (rw [h1, h2] at he; exact absurd he (by decide))
        refine ⟨t + 1, by show r.length - 2 * (t + 1) < r.length - 2 * t; omega, ⟨congrArg (Value.int .i64) (by rw [wrap_i64_in (by omega) (by omega)]; omega), trivial⟩, ⟨by show 2 * (t + 1) ≤ r.length; omega, fun t' ht' => ?_⟩, H⟩
        rcases Nat.lt_succ_iff_lt_or_eq.1 ht' with h | h
        · exact hall t' h
        · subst h; exact he'
    · refine len_str Try.underlying9 ?_
      refine cond_no (decide_eq_false (by rw [hw1]; show ¬ ((2 * t + 1 : Nat) : Int) < ((encB r).length : Int); omega)) ?_
      exact ⟨(), trivial, fun t' ht' => hall t' (by omega), H⟩
  clear H
  rintro ⟨⟩ u w1 ⟨hall, H⟩
  replace H : Hp _ _ _ _ _ := H
  have : turnsB r = false := by
    unfold turnsB
    rw [Bool.eq_false_iff]
    intro h
    obtain ⟨t, h1, h2⟩ := List.any_eq_true.1 h
    have := hall t (List.mem_range.1 h1)
    rw [this] at h2
    simp at h2
  rw [this]
  exact ⟨rfl, H.keeps⟩
end Go.Proofs.Ytjebpngdinbckaa
end

section
/- The reference's Size. -/
namespace Go.Proofs.Ytjebpngdinbckaa
open Go.Dk
attribute [local irreducible] IntKind.wrap

theorem metTo_len (o : List Nat) (s k : Nat) : ∀ m, (metTo o s k m).length ≤ m
  | 0 => Nat.le_refl _
  | m + 1 => by
    have := metTo_len o s k m
    unfold metTo
    split
    · rw [List.length_append]; show _ + 1 ≤ _; omega
    · omega
theorem sizeTo_le (o : List Nat) (s : Nat) : ∀ k, sizeTo o s k ≤ 2 ^ k
  | 0 => by simp [sizeTo]
  | k + 1 => by
    have := sizeTo_le o s k
    have := metTo_len o s k (2 ^ k)
    rw [sizeTo, Nat.pow_succ]
    unfold metS
    omega
def strsB (l : List (List Bool)) : List Value := l.map fun r => strV (encB r)
theorem strsB_get {l : List (List Bool)} {i : Nat} {r : List Bool} (h : l[i]? = some r) : (strsB l)[i]? = some (strV (encB r)) := by unfold strsB; rw [List.getElem?_map, h]; rfl
theorem ent112 : enters Try.prog 112 = true := by kernel_rfl
theorem c112 {o : List Nat} (ho : OrdO o) (s : Nat) (B : Option Addr) (co : Nat) (w : World) (hO : Sl w (.slice B o.length co) 1 o.length (intsN o)) :
    Fun Try.prog 112 [sv s, .slice B o.length co] w fun v w' => v = .int .i64 ((sizeS o s : Nat) : Int) ∧ Same w w' := by
  refine fun_of_W (N := 61) Try.func112 ent112 rfl rfl rfl (by simp) ?_
  have H := Hp.start0 w
  have hn := ho.le
  have hpow : ∀ i, i ≤ 8 → 2 ^ i ≤ 256 := fun i hi => pow_le_256 hi
  refine cut_rule (γ := Nat) _ rfl (fun g => [(2, .pointer (some ⟨g, 0, none⟩))]) (fun g w' => Hp w (fun _ => False) w' [blk g 24 (sc s)] []) ?_ ?_
  · refine H.box 24 (sv s) (cs := sc s) rfl ?_
    clear H
    intro g1 w1 H
    exact ⟨g1, ⟨rfl, trivial⟩, H⟩
  clear H
  rintro g u w1 H
  replace H : Hp _ _ _ _ _ := H
  refine cut_rule (γ := Option Addr × Nat) _ rfl (fun (A, ca) => [(5, .slice A 256 ca)]) (fun (A, ca) w' => Hp w (fun _ => False) w' [own 4 1 (.slice A 256 ca) 256 (bls (flagsN s))] []) ?_ ?_
  · refine H.loadAll 0 rfl agg24 size24 ?_
    refine call_fn (c40 s _) ?_
    rintro _ w2 ⟨A, ca, rfl, hn2⟩
    exact ⟨(A, ca), ⟨rfl, trivial⟩, (((H.addNew hn2).front 1 rfl).forget)⟩
  clear H
  rintro ⟨A, ca⟩ u w2 H
  replace H : Hp _ _ _ _ _ := H
  refine cut_rule (γ := Unit) _ rfl (fun _ => [(6, .int .i64 0)]) (fun _ w' => Hp w (fun _ => False) w' [own 4 1 (.slice A 256 ca) 256 (bls (flagsN s))] []) ⟨(), ⟨rfl, trivial⟩, H⟩ ?_
  clear H
  rintro ⟨⟩ u w3 H
  replace H : Hp _ _ _ _ _ := H
  refine cut_rule (γ := Unit) _ rfl (fun _ => [(7, .int .i64 1)]) (fun _ w' => Hp w (fun _ => False) w' [own 4 1 (.slice A 256 ca) 256 (bls (flagsN s))] []) ⟨(), ⟨rfl, trivial⟩, H⟩ ?_
  clear H
  rintro ⟨⟩ u w3 H
  replace H : Hp _ _ _ _ _ := H
  refine cut_rule (γ := Unit) _ rfl (fun _ => [(6, .int .i64 ((sizeS o s : Nat) : Int))]) (fun _ w' => Hp w (fun _ => False) w' [own 4 1 (.slice A 256 ca) 256 (bls (flagsN s))] []) ?_ ?_
  · refine loop_rule (γ := Nat) _ rfl (fun k => [(8, .int .i64 (k : Int)), (6, .int .i64 ((sizeTo o s k : Nat) : Int)), (7, .int .i64 ((2 ^ k : Nat) : Int))]) (fun k w' => k ≤ o.length ∧ Hp w (fun _ => False) w' [own 4 1 (.slice A 256 ca) 256 (bls (flagsN s))] []) (fun k => o.length - k) 0 ⟨rfl, rfl, rfl, trivial⟩ ⟨Nat.zero_le _, H⟩ ?_
    clear H
    rintro k u w4 ⟨hk, H⟩
    replace H : Hp _ _ _ _ _ := H
    refine len_sl Try.underlying32 ?_
    refine cond_dec (fun h7 => ?_) (fun h7 => ?_)
    · have hkn : k < o.length := by omega
      have h2k := hpow k (by omega)
      have hsk := sizeTo_le o s k
      have hml := metTo_len o s k
      have hrl : ∀ x, (rowS o s k x).length = 2 ^ (o.length - k) := fun x => rowF_length _ _ _
      have hev : 2 ^ (o.length - k) % 2 = 0 := by
        obtain ⟨j, hj⟩ : ∃ j, o.length - k = j + 1 := ⟨o.length - k - 1, by omega⟩
        rw [hj, Nat.pow_succ]; omega
      have hrb := hpow (o.length - k) (by omega)
      refine cut_rule (γ := Unit) _ rfl (fun _ => [(6, .int .i64 ((sizeTo o s (k + 1) : Nat) : Int)), (7, .int .i64 ((2 ^ (k + 1) : Nat) : Int))]) (fun _ w' => Hp w (fun _ => False) w' [own 4 1 (.slice A 256 ca) 256 (bls (flagsN s))] []) ?_ ?_
      · have e2 : 2 ^ (k + 1) = 2 ^ k * 2 := Nat.pow_succ ..
        have es : sizeTo o s (k + 1) = sizeTo o s k + (metTo o s k (2 ^ k)).length := rfl
        rw [e2, es]
        generalize 2 ^ k = many at h2k hsk ⊢
        refine cut_rule (γ := Unit) _ rfl (fun _ => [(9, .slice none 0 0)]) (fun _ w' => Hp w (fun _ => False) w' [own 4 1 (.slice A 256 ca) 256 (bls (flagsN s))] []) ⟨(), ⟨rfl, trivial⟩, H⟩ ?_
        clear H
        rintro ⟨⟩ u w5 H
        replace H : Hp _ _ _ _ _ := H
        have H2 := H.ownNil 9 1
        clear H
        refine cut_rule (γ := Option Addr × Nat) _ rfl (fun (C, d) => [(9, .slice C (metTo o s k many).length d)]) (fun (C, d) w' => Hp w (fun _ => False) w' [own 9 1 (.slice C (metTo o s k many).length d) (metTo o s k many).length (strsB (metTo o s k many)), own 4 1 (.slice A 256 ca) 256 (bls (flagsN s))] []) ?_ ?_
        · refine loop_rule (γ := Nat × Option Addr × Nat) _ rfl (fun (x, C, d) => [(10, .int .i64 (x : Int)), (9, .slice C (metTo o s k x).length d)]) (fun (x, C, d) w' => x ≤ many ∧ Hp w (fun _ => False) w' [own 9 1 (.slice C (metTo o s k x).length d) (metTo o s k x).length (strsB (metTo o s k x)), own 4 1 (.slice A 256 ca) 256 (bls (flagsN s))] []) (fun (x, _) => many - x) (0, none, 0) ⟨rfl, rfl, trivial⟩ ⟨Nat.zero_le _, H2⟩ ?_
          clear H2
          rintro ⟨x, C, d⟩ u w6 ⟨hx, H⟩
          replace H : Hp _ _ _ _ _ := H
          have hmx := hml x
          refine cond_dec (fun h9 => ?_) (fun h9 => ?_)
          · refine cut_rule (γ := Option Addr × Nat) _ rfl (fun (C, d) => [(9, .slice C (metTo o s k (x + 1)).length d)]) (fun (C, d) w' => Hp w (fun _ => False) w' [own 9 1 (.slice C (metTo o s k (x + 1)).length d) (metTo o s k (x + 1)).length (strsB (metTo o s k (x + 1))), own 4 1 (.slice A 256 ca) 256 (bls (flagsN s))] []) ?_ ?_
            · refine cut_rule (γ := Unit) _ rfl (fun _ => [(11, strV (encB (rowS o s k x)))]) (fun _ w' => Hp w (fun _ => False) w' [own 9 1 (.slice C (metTo o s k x).length d) (metTo o s k x).length (strsB (metTo o s k x)), own 4 1 (.slice A 256 ca) 256 (bls (flagsN s))] []) ?_ ?_
              · refine call_fn (c185 ho s k x (by omega) (by omega) A B ca co _ (own_Sl (H.get 1 rfl)) (hO.same H.keeps)) ?_
                rintro _ w7 ⟨rfl, hk7⟩
                exact ⟨(), ⟨rfl, trivial⟩, H.same hk7⟩
              clear H
              rintro ⟨⟩ u w7 H
              replace H : Hp _ _ _ _ _ := H
              have hrx := hrl x
              refine cut_rule (γ := Unit) _ rfl (fun _ => [(12, .bool (turnsB (rowS o s k x)))]) (fun _ w' => Hp w (fun _ => False) w' [own 9 1 (.slice C (metTo o s k x).length d) (metTo o s k x).length (strsB (metTo o s k x)), own 4 1 (.slice A 256 ca) 256 (bls (flagsN s))] []) ?_ ?_
              · refine call_fn (c186 (rowS o s k x) (by omega) (by omega) _) ?_
                rintro _ w8 ⟨rfl, hk8⟩
                exact ⟨(), ⟨rfl, trivial⟩, H.same hk8⟩
              clear H
              rintro ⟨⟩ u w8 H
              replace H : Hp _ _ _ _ _ := H
              have hsn : metTo o s k (x + 1) = if turnsB (rowS o s k x) && !(metTo o s k x).contains (rowS o s k x) then metTo o s k x ++ [rowS o s k x] else metTo o s k x := rfl
              refine cut_rule (γ := Unit) _ rfl (fun _ => [(12, .bool (turnsB (rowS o s k x) && !(metTo o s k x).contains (rowS o s k x)))]) (fun _ w' => Hp w (fun _ => False) w' [own 9 1 (.slice C (metTo o s k x).length d) (metTo o s k x).length (strsB (metTo o s k x)), own 4 1 (.slice A 256 ca) 256 (bls (flagsN s))] []) ?_ ?_
              · refine loop_rule (γ := Nat) _ rfl (fun i => [(13, .int .i64 (i : Int)), (12, .bool (turnsB (rowS o s k x) && !((metTo o s k x).take i).contains (rowS o s k x)))]) (fun i w' => i ≤ (metTo o s k x).length ∧ Hp w (fun _ => False) w' [own 9 1 (.slice C (metTo o s k x).length d) (metTo o s k x).length (strsB (metTo o s k x)), own 4 1 (.slice A 256 ca) 256 (bls (flagsN s))] []) (fun i => (metTo o s k x).length - i) 0 ⟨rfl, congrArg Value.bool (Bool.and_true _).symm, trivial⟩ ⟨Nat.zero_le _, H⟩ ?_
                clear H
                rintro i u w9 ⟨hi, H⟩
                replace H : Hp _ _ _ _ _ := H
                refine len_sl Try.underlying195 ?_
                refine cond_dec (fun h11 => ?_) (fun h11 => ?_)
                · obtain ⟨y, hy⟩ : ∃ y, (metTo o s k x)[i]? = some y := ⟨_, List.getElem?_eq_getElem (by omega)⟩
                  obtain ⟨gC, rfl⟩ := H.ownA 0 rfl (by omega)
                  have htk : (turnsB (rowS o s k x) && !((metTo o s k x).take (i + 1)).contains (rowS o s k x)) = ((turnsB (rowS o s k x) && !((metTo o s k x).take i).contains (rowS o s k x)) && !(y == (rowS o s k x))) := by
                    have : ((metTo o s k x).take (i + 1)).contains (rowS o s k x) = (((metTo o s k x).take i).contains (rowS o s k x) || (y == (rowS o s k x))) := by
                      rw [List.take_add_one, hy, Bool.eq_iff_iff, Bool.or_eq_true, List.contains_iff_mem, List.contains_iff_mem, List.mem_append, beq_iff_eq]
                      simp only [Option.toList_some, List.mem_singleton]
                      exact or_congr Iff.rfl eq_comm
                    rw [this, Bool.not_or, Bool.and_assoc]
                  have hey : (encB y == encB (rowS o s k x)) = (y == (rowS o s k x)) := by
                    rw [Bool.eq_iff_iff, beq_iff_eq, beq_iff_eq]
                    exact ⟨encB_inj, fun h => by rw [h]⟩
                  refine cut_rule (γ := Unit) _ rfl (fun _ => [(12, .bool (turnsB (rowS o s k x) && !((metTo o s k x).take (i + 1)).contains (rowS o s k x)))]) (fun _ w' => Hp w (fun _ => False) w' [own 9 1 (.slice (some ⟨gC, 0, none⟩) (metTo o s k x).length d) (metTo o s k x).length (strsB (metTo o s k x)), own 4 1 (.slice A 256 ca) 256 (bls (flagsN s))] []) ?_ ?_
                  · rw [htk]
                    cases (turnsB (rowS o s k x) && !((metTo o s k x).take i).contains (rowS o s k x)) with
                    | true =>
                      iterate 3 refine cond_yes rfl ?_
                      refine idxAddr_sl Try.underlying195 (s := 1) (by kernel_rfl) _ rfl (by first | omega | decide | (simp only [IntKind.wrap_i64]; omega) | (rw [bls, List.length_map]; omega) | (rw [bytesV_length]; omega) | (rw [ints_length]; omega) | (simp; done) | (simp; omega)) (o' := _) (by rw [Nat.zero_add, Nat.mul_one]) ?_
                      refine cond_yes rfl ?_
                      refine H.loadOwn 0 rfl agg9 (strsB_get hy) ?_
                      iterate 2 refine cond_yes rfl ?_
                      refine bin_neq_strL ?_
                      refine cond_yes rfl ?_
                      exact ⟨(), ⟨by rw [← hey]; rfl, trivial⟩, H⟩
                    | false =>
                      iterate 7 refine cond_no rfl ?_
                      exact ⟨(), ⟨rfl, trivial⟩, H⟩
                  · clear H
                    rintro ⟨⟩ u w10 H
                    exact ⟨i + 1, by show (metTo o s k x).length - (i + 1) < (metTo o s k x).length - i; omega, ⟨up (by omega), rfl, trivial⟩, by show i + 1 ≤ (metTo o s k x).length; omega, H⟩
                · rw [List.take_of_length_le (by omega)]
                  exact ⟨(), ⟨rfl, trivial⟩, H⟩
              clear H
              rintro ⟨⟩ u w9 H
              replace H : Hp _ _ _ _ _ := H
              cases hb : (turnsB (rowS o s k x) && !(metTo o s k x).contains (rowS o s k x)) with
              | true =>
                refine cond_yes rfl ?_
                refine H.buildOne T195 rfl ?_
                clear H
                intro g11 w11 H
                refine H.appendOne 0 T195 rfl rfl (by omega) (by omega) ?_
                clear H
                intro A10 k10 w10 H
                have e : metTo o s k (x + 1) = metTo o s k x ++ [rowS o s k x] := by rw [hsn, if_pos hb]
                have e1 : (metTo o s k (x + 1)).length = (metTo o s k x).length + 1 := by rw [e, List.length_append]; rfl
                have e2 : strsB (metTo o s k (x + 1)) = strsB (metTo o s k x) ++ [strV (encB (rowS o s k x))] := by rw [e]; simp [strsB]
                exact ⟨(A10, k10), ⟨by rw [e1]; rfl, trivial⟩, by rw [e1, e2]; exact H⟩
              | false =>
                refine cond_no rfl ?_
                have e : metTo o s k (x + 1) = metTo o s k x := by rw [hsn, hb]; rfl
                exact ⟨(C, d), ⟨by rw [e]; rfl, trivial⟩, by rw [e]; exact H⟩
            · clear H
              rintro ⟨C, d⟩ u w7 H
              exact ⟨(x + 1, C, d), by show many - (x + 1) < many - x; omega, ⟨up (by omega), rfl, trivial⟩, by show x + 1 ≤ many; omega, H⟩
          · obtain rfl : x = many := by omega
            exact ⟨(C, d), ⟨rfl, trivial⟩, H⟩
        clear H2
        rintro ⟨C, d⟩ u w6 H
        replace H : Hp _ _ _ _ _ := H
        have hmm := hml many
        refine len_sl Try.underlying195 ?_
        exact ⟨(), ⟨congrArg (Value.int .i64) (by rw [wrap_i64_in (by omega) (by omega)]; omega), congrArg (Value.int .i64) (by rw [wrap_i64_in (by omega) (by omega)]; omega), trivial⟩, H.forget⟩
      · clear H
        rintro ⟨⟩ u w5 H
        exact ⟨k + 1, by show o.length - (k + 1) < o.length - k; omega, ⟨up (by omega), rfl, rfl, trivial⟩, by show k + 1 ≤ o.length; omega, H⟩
    · obtain rfl : k = o.length := by omega
      exact ⟨(), ⟨rfl, trivial⟩, H⟩
  clear H
  rintro ⟨⟩ u w4 H
  replace H : Hp _ _ _ _ _ := H
  exact ⟨rfl, H.keeps⟩
end Go.Proofs.Ytjebpngdinbckaa
end

section
/- knows, start. -/
namespace Go.Proofs.Ytjebpngdinbckaa
open Go.Dk
attribute [local irreducible] IntKind.wrap

theorem ok_start {room : Int} (h0 : 0 ≤ room) (h1 : room ≤ 20000) : ArOk room [] := ok_nil h0 h1
theorem made_id {n : Nat} {room : Int} {A A' : Ar} {F : Dk.Fn} {id e : Int} (h : Made n room A A' F id e) (hok : ArOk room A') : id < 30000 ∧ -1 < id := by
  rcases h.res with ⟨_, h⟩ | ⟨_, rfl, _⟩
  · have := id_lt hok h.there
    have := lvlA_nonneg h.there
    omega
  · decide
theorem ordB_iff (ks : List Int) : orderB ks = true ↔ OrdI ks := by
  unfold orderB
  rw [Bool.and_eq_true, decide_eq_true_eq, List.all_eq_true]
  constructor
  · rintro ⟨h1, h2⟩
    exact (ordI_count h1).2 fun i hi => by simpa using h2 i (List.mem_range.2 hi)
  · intro h
    exact ⟨h.le, fun i hi => by simpa using (ordI_count h.le).1 h i (List.mem_range.1 hi)⟩
theorem BInv.of_ord (o : List Nat) : BInv o.length [] := BInv.nil _
/-- A diagram that is one's own: read open. -/
theorem _root_.Go.Dk.Hp.bdAt' {w0 w : World} {F : Nat → Prop} {L M : List Res} {g ga r co : Nat} {B : Option Addr} {o : List Nat} {sv0 : Value} {room : Int} {A : Ar} (H : Hp w0 F w (arR ga r sv0 room A :: L) (bdM g ga co B o ++ M)) : BdAt w g ga r co B o sv0 room A :=
  H.bdAt 0 rfl fun s hs => List.mem_append_left _ hs
theorem start_rule {P : Program} {w w1 : World} {r : Res} (h : NewR w w1 r) : Hp w (fun _ => False) w1 [r] [] := (Hp.start0 w).addNew h
theorem bin_eql123z {xo yo : Operand} {w : World} {kk : Value → World → Prop} (h : kk (.bool true) w) : binK Try.prog .eql 123 xo yo (.pointer none) (.pointer none) w kk :=
  bin_by (fun w => by kernel_rfl) h
theorem ent107 : enters Try.prog 107 = true := by kernel_rfl
theorem c107 (ks : List Int) (B : Option Addr) (c : Nat) (w : World) (hl : ks.length ≤ 9223372036854775807) (hs : Sl w (.slice B ks.length c) 1 ks.length (intsI ks)) :
    Fun Try.prog 107 [.slice B ks.length c] w fun v w' =>
      (¬ OrdI ks ∧ v = .tuple #[.pointer none, .bool true] ∧ Same w w') ∨
      (OrdI ks ∧ ∃ g ga r co B', v = .tuple #[.pointer (some ⟨g, 0, none⟩), .bool true] ∧ NewR w w' (bdR g ga r co B' (natsI ks) (.slice none 0 0) 20000 [])) := by
  refine fun_of_W (N := 27) Try.func107 ent107 rfl rfl rfl (by simp) ?_
  have H := Hp.start0 w
  refine cut_rule (γ := Unit) _ rfl (fun _ => []) (fun _ w' => Hp w (fun _ => False) w' [] []) ⟨(), trivial, H⟩ ?_
  clear H
  rintro ⟨⟩ u w0 H
  replace H : Hp _ _ _ _ _ := H
  refine call_fn (c113 ks B c 20000 _ hl (hs.same H.keeps)) ?_
  rintro _ w1 (⟨h, rfl, hk⟩ | ⟨hord, _, _, g, ga, r, co, B', rfl, hn⟩)
  · replace H := H.same hk
    clear hk
    have hno : ¬ OrdI ks := by rcases h with h | h | h; · exact h
                               · omega
                               · omega
    have hb : orderB ks = false := by rw [Bool.eq_false_iff]; exact fun h => hno ((ordB_iff ks).1 h)
    have hc := c101 ks B c w1 hl (hs.same H.keeps)
    rw [hb] at hc
    refine call_fn hc ?_
    rintro _ w2 ⟨rfl, hk⟩
    replace H := H.same hk
    clear hk
    refine cond_yes rfl ?_
    refine bin_eql123z ?_
    iterate 3 refine cond_yes rfl ?_
    exact .inl ⟨hno, rfl, H.keeps⟩
  · replace H := H.addNew hn
    clear hn
    have hb : orderB ks = true := (ordB_iff ks).2 hord
    have hc := c101 ks B c w1 hl (hs.same H.keeps)
    rw [hb] at hc
    refine call_fn hc ?_
    rintro _ w2 ⟨rfl, hk⟩
    replace H := H.same hk
    clear hk
    refine cond_no rfl ?_
    refine bin_neq123 ?_
    iterate 3 refine cond_yes rfl ?_
    exact .inr ⟨hord, g, ga, r, co, B', rfl, H.out⟩
end Go.Proofs.Ytjebpngdinbckaa
end

section
/- Decision diagrams: what is answered where there is room enough; knows. -/
namespace Go.Proofs.Ytjebpngdinbckaa
open Go.Dk
attribute [local irreducible] IntKind.wrap

theorem iteF_low {n : Nat} {A : Ar} (h : BInv n A) (f p q : Int) : Low n (iteF A f p q) := fun a b hab => by
  unfold iteF
  rw [sem_low h f a b hab, sem_low h p a b hab, sem_low h q a b hab]
theorem fixF_low {n : Nat} {A : Ar} (h : BInv n A) (f : Int) (level : Nat) (v : Bool) : Low n (fixF A f level v) := (sem_low h f).up level v
theorem made_small {n : Nat} {room : Int} {A A' : Ar} {F : Dk.Fn} {id e : Int} (h : Made n room A A' F id e) (hF : Low n F) (hn : n ≤ 8) {q : Nat} (hq : liveA A ≤ q) (hr : (q : Int) + 256 ≤ room) : e = 0 ∧ Rep A' id F ∧ liveA A' ≤ q + 255 := by
  have hD := low_hangs hF
  have h1 := made_few h hD
  have hp := pow_le_256 hn
  have hc : (2 : Int) ^ n = ((2 ^ n : Nat) : Int) := by simp
  rw [List.length_range] at h1
  obtain ⟨he, hrep⟩ := made_ok h hD (by rw [List.length_range, hc]; omega)
  exact ⟨he, hrep, by omega⟩
theorem some_small {n : Nat} {room : Int} {A A' : Ar} {f : Int} {level : Nat} {id e : Int} (h : SomeR n room A A' f level id e) (hA : BInv n A) (hn : n ≤ 8) {q : Nat} (hq : liveA A ≤ q) (hr : (q : Int) + 1024 ≤ room) :
    e = 0 ∧ Rep A' id (fun a => sem A f a || sem A f (upA a level (!a level))) ∧ liveA A' ≤ q + 765 ∧ Ext A A' ∧ BInv n A' := by
  rcases h with ⟨x, m1, he, _⟩ | ⟨A1, x, y, m1, m2, he, _⟩ | ⟨A1, A2, x, y, m1, m2, m3⟩
  · exact absurd (made_small m1 (fixF_low hA f level false) hn hq (by omega)).1 he
  · obtain ⟨_, _, l1⟩ := made_small m1 (fixF_low hA f level false) hn hq (by omega)
    exact absurd (made_small m2 (fixF_low hA f level true) hn l1 (by omega)).1 he
  · obtain ⟨_, r1, l1⟩ := made_small m1 (fixF_low hA f level false) hn hq (by omega)
    obtain ⟨_, r2, l2⟩ := made_small m2 (fixF_low hA f level true) hn l1 (by omega)
    obtain ⟨he, r3, l3⟩ := made_small m3 (iteF_low m2.inv x 1 y) hn l2 (by omega)
    refine ⟨he, r3.congr fun a => ?_, by omega, (m1.ext.trans m2.ext).trans m3.ext, m3.inv⟩
    have r1' := r1.ext m1.inv.inv m2.inv.inv m2.ext
    unfold iteF
    rw [r1'.says, r2.says, sem_none (nd_end (.inr rfl))]
    exact some_or (sem A f) level a
theorem _root_.Go.Dk.Hp.takeN {w0 w : World} {F : Nat → Prop} {L M : List Res} (H : Hp w0 F w L M) (n : Nat) : Hp w0 F w (L.take n) M :=
  ⟨H.keeps, fun s hs => H.ok s (List.mem_of_mem_take hs), fun s hs => H.lt s (List.mem_of_mem_take hs), fun s hs => H.new s (List.mem_of_mem_take hs), H.dis.sublist (List.take_sublist _ _), H.rok, H.rlt, fun q hq s hs => H.rdis q hq s (List.mem_of_mem_take hs)⟩
theorem reach_size {o : List Nat} (ho : OrdO o) {A : Ar} (h : BInv o.length A) {s : Nat} {id : Int} (hr : Rep A id (FnS o s)) : (reachL A id).length = sizeS o s := by
  unfold reachL reachTo
  rw [List.length_map]
  refine reach_count ho h hr (List.nodup_range.sublist List.filter_sublist) fun x => ?_
  rw [List.mem_filter, List.mem_range, reach_spec h.inv]
  constructor
  · exact fun h => h.2
  · intro hx
    obtain ⟨d, hd⟩ := hx.slot
    exact ⟨slot_lt hd, hx⟩
/-! The examples. -/
theorem ordI01 : OrdI [0, 1] := by decide
theorem ent106 : enters Try.prog 106 = true := by kernel_rfl
theorem c106 (w : World) : Fun Try.prog 106 [] w fun v w' => v = .bool true ∧ Same w w' := by
  refine fun_of_W (N := 78) Try.func106 ent106 rfl rfl rfl (by simp) ?_
  have H := Hp.start0 w
  have ho : OrdO (natsI [0, 1]) := ordI01.nats
  have ho8 : (natsI [0, 1]).length ≤ 8 := ho.le
  refine cut_rule (γ := Unit) _ rfl (fun _ => [(0, .bool false)]) (fun _ w' => Hp w (fun _ => False) w' [] []) ⟨(), ⟨rfl, trivial⟩, H⟩ ?_
  clear H
  rintro ⟨⟩ u w0 H
  replace H : Hp _ _ _ _ _ := H
  refine cut_rule (γ := Nat × Nat × Nat × Nat × Option Addr) _ rfl (fun (g, _) => [(1, .pointer (some ⟨g, 0, none⟩)), (2, .int .i64 0)]) (fun (g, ga, r, co, B) w' => Hp w (fun _ => False) w' [arR ga r (.slice none 0 0) 20000 []] (bdM g ga co B (natsI [0, 1]) ++ [])) ?_ ?_
  · refine H.buildSl T32 (n := 2) (cs := #[.int .i64 0, .int .i64 1]) (by omega) (by omega) (by kernel_rfl) ?_
    clear H
    intro g5 w1 H
    refine call_fn (c113 [0, 1] (some ⟨g5, 0, none⟩) 2 20000 _ (by decide) (blkN_Sl (H.get 0 rfl) (blk_lt (H.get 0 rfl)) rfl (by decide))) ?_
    rintro _ w2 (⟨h, _⟩ | ⟨_, _, _, g, ga, r, co, B, rfl, hn⟩)
    · rcases h with h | h | h
      · exact absurd ordI01 h
      · exact absurd h (by decide)
      · exact absurd h (by decide)
    · exact ⟨(g, ga, r, co, B), ⟨rfl, rfl, trivial⟩, (H.addNew hn).bdOpen.takeN 1⟩
  clear H
  rintro ⟨g, ga, r, co, B⟩ u w1 H
  replace H : Hp _ _ _ _ _ := H
  have hA0 : BInv (natsI [0, 1]).length [] := BInv.nil _
  have hok0 : ArOk 20000 [] := ok_start (by decide) (by decide)
  refine cut_rule (γ := Int × Value × Ar) _ rfl (fun (f, _) => [(3, .int .i64 f), (4, .int .i64 0)]) (fun (f, sv1, A1) w' => (ArOk 20000 A1 ∧ BInv (natsI [0, 1]).length A1 ∧ liveA A1 ≤ 255 ∧ Rep A1 f (FnS (natsI [0, 1]) 10)) ∧ Hp w (fun _ => False) w' [arR ga r sv1 20000 A1] (bdM g ga co B (natsI [0, 1]) ++ [])) ?_ ?_
  · refine build24_10 ?_
    refine call_fn (c108 ho ho8 (s := 10) (by decide) _ hA0 hok0 H.bdAt') ?_
    rintro _ w2 ⟨A1, sv1, f, e, rfl, (⟨h, _⟩ | ⟨_, hm⟩), hok1, ht⟩
    · exact absurd (by decide +kernel) h
    · obtain ⟨rfl, hr, hl⟩ := made_small hm (FnS_low ho 10) ho8 (q := 0) (by decide) (by decide)
      exact ⟨(f, sv1, A1), ⟨rfl, rfl, trivial⟩, ⟨hok1, hm.inv, hl, hr⟩, H.turnBy 0 rfl ht⟩
  clear H hok0 hA0
  rintro ⟨f, sv1, A1⟩ u w2 ⟨⟨hok1, hA1, hl1, hr1⟩, H⟩
  replace H : Hp _ _ _ _ _ := H
  have tf := hr1.there
  have hfl := id_lt hok1 tf
  have hf1 : 1 < f := by
    have h0 : f ≠ 0 := fun h => by
      have := hr1.says (fun k => k == 0)
      rw [h, sem_none (nd_end (.inl rfl))] at this
      exact absurd this (by decide)
    have h1 : f ≠ 1 := fun h => by
      have := hr1.says (fun _ => false)
      rw [h, sem_none (nd_end (.inr rfl))] at this
      exact absurd this (by decide)
    have := lvlA_nonneg tf
    omega
  refine cut_rule (γ := Nat) _ rfl (fun g5 => [(5, .pointer (some ⟨g5, 0, none⟩)), (6, .int .i64 0)]) (fun g5 w' => Hp w (fun _ => False) w' [arR ga r sv1 20000 A1, blk g5 24 (sc 10)] (bdM g ga co B (natsI [0, 1]) ++ [])) ?_ ?_
  · have hset : setD (natsI [0, 1]) A1 f = 10 := setD_rep ho hr1 (by decide) (fun p hp => by
      have : p < 4 := by
        rcases Nat.lt_or_ge p 4 with h | h
        · exact h
        · rw [Nat.testBit_lt_two_pow (Nat.lt_of_lt_of_le (by decide : 10 < 2 ^ 4) (Nat.pow_le_pow_right (by decide) h))] at hp; cases hp
      exact this) (fun p hp => FnS_asg ho 10 hp)
    have hc := c110b ho f (by omega) _ hA1 hok1 H.bdAt'
    rw [if_pos tf, hset] at hc
    refine call_fn hc ?_
    rintro _ w3 ⟨rfl, hk⟩
    replace H := H.same hk
    clear hk
    refine H.alloc 24 (cs := sc 0) zero24 sc_zero ?_
    clear H
    intro g5 w4 H
    refine H.storeSet 0 rfl ?_
    clear H
    intro w5 H
    exact ⟨g5, ⟨rfl, rfl, trivial⟩, H.front 1 rfl⟩
  clear H
  rintro g5 u w3 H
  replace H : Hp _ _ _ _ _ := H
  have t0 : ∀ A : Ar, 0 ≤ lvlA A 0 := fun A => by rw [lvl_end (.inl rfl)]; decide
  have t1 : ∀ A : Ar, 0 ≤ lvlA A 1 := fun A => by rw [lvl_end (.inr rfl)]; decide
  refine cut_rule (γ := Int × Value × Ar) _ rfl (fun (x, _) => [(7, .int .i64 x), (8, .int .i64 0)]) (fun (x, sv2, A2) w' => (ArOk 20000 A2 ∧ BInv (natsI [0, 1]).length A2 ∧ liveA A2 ≤ 510 ∧ Ext A1 A2 ∧ Rep A2 x (iteF A1 f 0 1)) ∧ Hp w (fun _ => False) w' [arR ga r sv2 20000 A2, blk g5 24 (sc 10)] (bdM g ga co B (natsI [0, 1]) ++ [])) ?_ ?_
  · refine call_fn (c128 ho8 f (by omega) _ hA1 hok1 H.bdAt') ?_
    rintro _ w4 ⟨A2, sv2, x, e, rfl, hm, hok2, ht⟩
    have hm := hm.made tf (t0 _) (t1 _)
    obtain ⟨rfl, hr, hl⟩ := made_small hm (iteF_low hA1 _ _ _) ho8 hl1 (by decide)
    exact ⟨(x, sv2, A2), ⟨rfl, rfl, trivial⟩, ⟨hok2, hm.inv, hl, hm.ext, hr⟩, H.turnBy 0 rfl ht⟩
  clear H
  rintro ⟨x, sv2, A2⟩ u w4 ⟨⟨hok2, hA2, hl2, hx2, hr2⟩, H⟩
  replace H : Hp _ _ _ _ _ := H
  have hf2 := hr1.ext hA1.inv hA2.inv hx2
  have hxl := id_lt hok2 hr2.there
  refine cut_rule (γ := Value × Ar) _ rfl (fun _ => [(9, .int .i64 1), (10, .int .i64 0)]) (fun (sv3, A3) w' => (ArOk 20000 A3 ∧ BInv (natsI [0, 1]).length A3 ∧ Rep A3 f (FnS (natsI [0, 1]) 10)) ∧ Hp w (fun _ => False) w' [arR ga r sv3 20000 A3, blk g5 24 (sc 10)] (bdM g ga co B (natsI [0, 1]) ++ [])) ?_ ?_
  · refine call_fn (c116 ho8 f x (by omega) (by omega) _ hA2 hok2 H.bdAt') ?_
    rintro _ w5 ⟨A3, sv3, y, e, rfl, hm, hok3, ht⟩
    have hm := hm.made hf2.there (t1 _) hr2.there
    obtain ⟨rfl, hr, hl⟩ := made_small hm (iteF_low hA2 _ _ _) ho8 hl2 (by decide)
    have hy : y = 1 := by
      refine rep_canon hm.inv hr (rep_one.congr fun a => ?_)
      unfold iteF
      rw [sem_none (nd_end (.inr rfl)), hr2.says]
      unfold iteF
      rw [sem_none (nd_end (.inr rfl)), hf2.says, hr1.says]
      cases FnS (natsI [0, 1]) 10 a <;> rfl
    subst hy
    exact ⟨(sv3, A3), ⟨rfl, rfl, trivial⟩, ⟨hok3, hm.inv, hf2.ext hA2.inv hm.inv.inv hm.ext⟩, H.turnBy 0 rfl ht⟩
  clear H
  rintro ⟨sv3, A3⟩ u w5 ⟨⟨hok3, hA3, hr3⟩, H⟩
  replace H : Hp _ _ _ _ _ := H
  iterate 6 refine cond_yes rfl ?_
  refine cond_yes (decide_eq_true (by assumption)) ?_
  refine H.loadAll 1 rfl agg24 size24 ?_
  refine cond_yes (decide_eq_true (by assumption)) ?_
  have hsz : sizeS (natsI [0, 1]) 10 = 1 := by decide +kernel
  have hc := c111 (n := (natsI [0, 1]).length) (c := co) (B := B) hok3 f (by omega) w5 (H.ro 0 rfl) (H.get 0 rfl)
  refine build24_10 ?_
  refine cond_yes (decide_eq_true (by assumption)) ?_
  refine bin_eql24 (by first | assumption | decide) (by first | assumption | decide) ?_
  refine cond_yes (decide_eq_true (by assumption)) ?_
  iterate 15 refine cond_yes rfl ?_
  rw [reach_size ho hA3 hr3, hsz] at hc
  refine call_fn hc ?_
  rintro _ w6 ⟨rfl, hk⟩
  replace H := H.same hk
  clear hk
  iterate 2 refine cond_yes rfl ?_
  exact ⟨rfl, H.keeps⟩
end Go.Proofs.Ytjebpngdinbckaa
end

section
/- Law 21. -/
namespace Go.Proofs.Ytjebpngdinbckaa
open Go.Dk
attribute [local irreducible] IntKind.wrap

theorem less_all {s n : Nat} (hs : s < 2 ^ 256) (h : lessN s (allN n) = 0) : ∀ p, s.testBit p = true → p < 2 ^ n := fun p hp => by
  have h1 := (lessN_zero (b := allN n) hs).1 (by rw [h]; rfl) p
  have hp8 : p < 256 := by
    rcases Nat.lt_or_ge p 256 with h | h
    · exact h
    · rw [testBit_hi hs h] at hp; cases hp
  have h2 := h1 hp8
  unfold allN at h2
  rw [testBit_setOf, decide_eq_true hp8, Bool.true_and] at h2
  refine Classical.byContradiction fun hn => h2 ⟨hp, decide_eq_false hn⟩
theorem set_of {o : List Nat} (ho : OrdO o) {A : Ar} {f : Int} {s : Nat} (hs : s < 2 ^ 256) (hr : Rep A f (FnS o s)) (h : lessN s (allN o.length) = 0) : setD o A f = s :=
  setD_rep ho hr hs (less_all hs h) fun _ hp => FnS_asg ho s hp
/-- The order as it is read. -/
theorem ord_sl {ks : List Int} {B : Option Addr} {c : Nat} {w : World} (hord : OrdI ks) (hs : Sl w (.slice B ks.length c) 1 ks.length (intsI ks)) : Sl w (.slice B (natsI ks).length c) 1 (natsI ks).length (intsN (natsI ks)) := by
  rw [natsI_length, intsN_nats fun x hx => (hord.rng x hx).1]
  exact hs
theorem ent21 : enters Try.prog 21 = true := by kernel_rfl
theorem law21_m (ks : List Int) (B : Option Addr) (c : Nat) (s : Nat) (hs : s < 2 ^ 256) (w : World) (hl : ks.length ≤ 9223372036854775807) (hS : Sl w (.slice B ks.length c) 1 ks.length (intsI ks)) :
    Fun Try.prog 21 [.slice B ks.length c, sv s] w fun v w' => v = .bool true ∧ Same w w' := by
  refine fun_of_W (N := 79) Try.func21 ent21 rfl rfl rfl (by simp) ?_
  have H := Hp.start0 w
  refine cut_rule (γ := Nat) _ rfl (fun g => [(3, .pointer (some ⟨g, 0, none⟩))]) (fun g w' => Hp w (fun _ => False) w' [blk g 24 (sc s)] []) ?_ ?_
  · refine H.box 24 (sv s) (cs := sc s) rfl ?_
    clear H
    intro g1 w1 H
    exact ⟨g1, ⟨rfl, trivial⟩, H⟩
  clear H
  rintro g3 u w1 H
  replace H : Hp _ _ _ _ _ := H
  refine cut_rule (γ := Unit) _ rfl (fun _ => []) (fun _ w' => ks.length ≤ 20 ∧ Hp w (fun _ => False) w' [blk g3 24 (sc s)] []) ?_ ?_
  · refine len_sl Try.underlying32 ?_
    refine cond_dec (fun h4 => ?_) (fun h4 => ?_)
    · refine call_fn (c106 _) ?_
      rintro _ w5 ⟨rfl, hk⟩
      replace H := H.same hk
      clear hk
      exact ⟨rfl, H.keeps⟩
    · exact ⟨(), trivial, by omega, H⟩
  clear H
  rintro ⟨⟩ u w2 ⟨h20, H⟩
  replace H : Hp _ _ _ _ _ := H
  refine call_fn (c107 ks B c _ hl (hS.same H.keeps)) ?_
  rintro _ w3 (⟨hno, rfl, hk⟩ | ⟨hord, g, ga, r, co, B', rfl, hn⟩)
  · replace H := H.same hk
    clear hk
    refine bin_eql123z ?_
    iterate 5 refine cond_yes rfl ?_
    refine call_fn (c106 _) ?_
    rintro _ w10 ⟨rfl, hk⟩
    replace H := H.same hk
    clear hk
    refine cond_yes rfl ?_
    exact ⟨rfl, H.keeps⟩
  · replace H := ((H.addNew hn).bdOpen.takeN 2)
    have ho : OrdO (natsI ks) := hord.nats
    have ho8 : (natsI ks).length ≤ 8 := ho.le
    have hkl : (natsI ks).length = ks.length := natsI_length ks
    have hS' := ord_sl hord hS
    have hA0 : BInv (natsI ks).length [] := BInv.nil _
    have hok0 : ArOk 20000 [] := ok_start (by decide) (by decide)
    have hc109 := fun w1 => c109' s (natsI ks).length hs ho8 w1
    rw [hkl] at hc109
    refine bin_eql123 ?_
    iterate 4 refine cond_no rfl ?_
    refine H.loadAll 1 rfl agg24 size24 ?_
    refine call_fn (c108 ho ho8 hs _ hA0 hok0 H.bdAt') ?_
    rintro _ w4 ⟨A1, sv1, f, e, rfl, (⟨hz, rfl, rfl, rfl⟩ | ⟨hz, hm⟩), hok1, ht⟩
    · replace H := H.turnBy 0 rfl ht
      rw [hkl] at hz
      have hzb : (lessN s (allN ks.length) == 0) = false := by simpa using hz
      rw [hzb] at hc109
      refine H.loadAll 1 rfl agg24 size24 ?_
      refine len_sl Try.underlying32 ?_
      refine call_fn (hc109 _) ?_
      rintro _ w7 ⟨rfl, hk⟩
      replace H := H.same hk
      clear hk
      iterate 5 refine cond_yes rfl ?_
      refine call_fn (c106 _) ?_
      rintro _ w13 ⟨rfl, hk⟩
      replace H := H.same hk
      clear hk
      refine cond_yes rfl ?_
      exact ⟨rfl, H.keeps⟩
    · obtain ⟨rfl, hr, hlive⟩ := made_small hm (FnS_low ho s) ho8 (q := 0) (by decide) (by decide)
      replace H := H.turnBy 0 rfl ht
      have hfl := id_lt hok1 hr.there
      have hset := set_of ho hs hr hz
      have hrs := reach_size ho hm.inv hr
      rw [hkl] at hz
      have hzb : (lessN s (allN ks.length) == 0) = true := by simpa using hz
      rw [hzb] at hc109
      have hc := fun w1 hbd => c110b (w := w1) ho f (by omega) hm.inv hok1 (hbd : BdAt w1 g ga r co B' (natsI ks) sv1 20000 A1)
      rw [if_pos hr.there, hset] at hc
      have hc1 := fun w1 hb h => c111 (n := (natsI ks).length) (c := co) (B := B') (g := g) (ga := ga) (r := r) (sv0 := sv1) hok1 f (by omega) w1 hb h
      rw [hrs] at hc1
      have hc2 := fun w1 hO => c112 ho s B c w1 hO
      rw [hkl] at hc2 hS'
      refine H.loadAll 1 rfl agg24 size24 ?_
      refine len_sl Try.underlying32 ?_
      refine call_fn (hc109 _) ?_
      rintro _ w7 ⟨rfl, hk⟩
      replace H := H.same hk
      clear hk
      refine cond_no rfl ?_
      refine call_fn (hc _ H.bdAt') ?_
      rintro _ w9 ⟨rfl, hk⟩
      replace H := H.same hk
      clear hk
      refine H.alloc 24 (cs := sc 0) zero24 sc_zero ?_
      clear H
      intro g10 w10 H
      refine H.storeSet 0 rfl ?_
      clear H
      intro w11 H
      refine H.draw fol (by kernel_rfl) ?_
      clear H
      intro w12 H
      refine cond_yes rfl ?_
      refine quiet _ (fun w H => H.loadAll 0 rfl agg24 size24 ⟨rfl, rfl⟩) ?_
      refine cond_yes rfl ?_
      refine quiet _ (fun w H => H.loadAll 2 rfl agg24 size24 ⟨rfl, rfl⟩) ?_
      refine cond_yes rfl ?_
      refine quiet _ (fun w H => bin_eql24 (by first | assumption | decide) (by first | assumption | decide) ⟨rfl, rfl⟩) ?_
      refine cond_yes rfl ?_
      iterate 3 refine cond_yes (beq_self_eq_true _) ?_
      iterate 3 refine cond_yes rfl ?_
      refine call_fn (hc1 _ (H.ro 0 rfl) (H.get 1 rfl)) ?_
      rintro _ w27 ⟨rfl, hk⟩
      replace H := H.same hk
      refine ⟨.inl H, ?_⟩
      refine cond_yes rfl ?_
      refine quiet _ (fun w H => H.loadAll 2 rfl agg24 size24 ⟨rfl, rfl⟩) ?_
      iterate 2 refine cond_yes rfl ?_
      refine call_fn (hc2 _ (hS'.same H.keeps)) ?_
      rintro _ w33 ⟨rfl, hk⟩
      replace H := H.same hk
      refine ⟨.inl H, ?_⟩
      iterate 2 refine cond_yes rfl ?_
      refine cond_yes (beq_self_eq_true _) ?_
      refine call_fn (c106 _) ?_
      rintro _ w38 ⟨rfl, hk⟩
      replace H := H.same hk
      clear hk
      refine ⟨.inl H, ?_⟩
      refine cond_yes (beq_self_eq_true _) ?_
      exact ⟨rfl, H.keeps⟩
theorem law21 (v : Value) (s : Nat) (hs : s < 2 ^ 256) (w : World) {ks : List Int} (hk : IntsAt w v ks) : Fun Try.prog 21 [v, sv s] w fun v w' => v = .bool true ∧ Same w w' := by
  obtain ⟨B, c, rfl, hl, _, hS⟩ := hk
  exact law21_m ks B c s hs w hl hS
end Go.Proofs.Ytjebpngdinbckaa
end

section
/- Law 22. -/
namespace Go.Proofs.Ytjebpngdinbckaa
open Go.Dk
attribute [local irreducible] IntKind.wrap

theorem and_set {o : List Nat} (ho : OrdO o) {A : Ar} {x : Int} {r s : Nat} (hr : r < 2 ^ 256) (hrz : lessN r (allN o.length) = 0) (h : Rep A x fun a => FnS o r a && FnS o s a) : setD o A x = r &&& s :=
  setD_rep ho h (Nat.lt_of_le_of_lt Nat.and_le_left hr) (fun p hp => by
    rw [Nat.testBit_and, Bool.and_eq_true] at hp
    exact less_all hr hrz p hp.1) (fun p hp => by rw [FnS_asg ho r hp, FnS_asg ho s hp, Nat.testBit_and])
theorem ite_and {A : Ar} {f h : Int} {F G : Dk.Fn} (hf : Rep A f F) (hh : Rep A h G) : iteF A f h 0 = fun a => F a && G a := by
  funext a
  unfold iteF
  rw [hf.says, hh.says, sem_none (nd_end (.inl rfl))]
  cases F a <;> rfl
theorem end_there (A : Ar) : 0 ≤ lvlA A 0 := by rw [lvl_end (.inl rfl)]; decide
theorem one_there (A : Ar) : 0 ≤ lvlA A 1 := by rw [lvl_end (.inr rfl)]; decide
theorem ent22 : enters Try.prog 22 = true := by kernel_rfl
theorem law22_m (ks : List Int) (B : Option Addr) (c : Nat) (r s : Nat) (hr : r < 2 ^ 256) (hs : s < 2 ^ 256) (little : Nat) (hlit : little < 256) (w : World) (hl : ks.length ≤ 9223372036854775807) (hS : Sl w (.slice B ks.length c) 1 ks.length (intsI ks)) :
    Fun Try.prog 22 [.slice B ks.length c, sv r, sv s, .int .u8 (little : Int)] w fun v w' => v = .bool true ∧ Same w w' := by
  refine fun_of_W (N := 153) Try.func22 ent22 rfl rfl rfl (by simp) ?_
  have H := Hp.start0 w
  refine cut_rule (γ := Nat × Nat) _ rfl (fun (g5, g6) => [(5, .pointer (some ⟨g5, 0, none⟩)), (6, .pointer (some ⟨g6, 0, none⟩))]) (fun (g5, g6) w' => Hp w (fun _ => False) w' [blk g6 24 (sc s), blk g5 24 (sc r)] []) ?_ ?_
  · refine H.box 24 (sv r) (cs := sc r) rfl ?_
    clear H
    intro g5 w1 H
    refine H.box 24 (sv s) (cs := sc s) rfl ?_
    clear H
    intro g6 w1 H
    exact ⟨(g5, g6), ⟨rfl, rfl, trivial⟩, H⟩
  clear H
  rintro ⟨g5, g6⟩ u w1 H
  replace H : Hp _ _ _ _ _ := H
  refine cut_rule (γ := Unit) _ rfl (fun _ => []) (fun _ w' => (OrdI ks ∧ lessN r (allN ks.length) = 0 ∧ lessN s (allN ks.length) = 0) ∧ Hp w (fun _ => False) w' [blk g6 24 (sc s), blk g5 24 (sc r)] []) ?_ ?_
  · by_cases h20 : (20 : Int) < ks.length
    · refine len_sl Try.underlying32 ?_
      iterate 4 refine cond_yes (decide_eq_true (by assumption)) ?_
      iterate 13 refine cond_yes rfl ?_
      refine call_fn (c106 _) ?_
      rintro _ w23 ⟨rfl, hk⟩
      replace H := H.same hk
      clear hk
      exact ⟨rfl, H.keeps⟩
    have hc := fun w1 hs => c101 ks B c w1 hl hs
    by_cases hord : OrdI ks
    · rw [(ordB_iff ks).2 hord] at hc
      have h8 := hord.le
      have hr1 := fun w1 => c109' r ks.length hr h8 w1
      have hs1 := fun w1 => c109' s ks.length hs h8 w1
      by_cases hz : lessN r (allN ks.length) = 0
      · have hzb : (lessN r (allN ks.length) == 0) = true := by simpa using hz
        rw [hzb] at hr1
        by_cases hz2 : lessN s (allN ks.length) = 0
        · have hzb : (lessN s (allN ks.length) == 0) = true := by simpa using hz2
          rw [hzb] at hs1
          refine len_sl Try.underlying32 ?_
          iterate 2 refine cond_no (decide_eq_false (by assumption)) ?_
          refine call_fn (hc _ (hS.same H.keeps)) ?_
          rintro _ w7 ⟨rfl, hk⟩
          replace H := H.same hk
          clear hk
          iterate 2 refine cond_no (decide_eq_false (by assumption)) ?_
          refine cond_no rfl ?_
          refine H.loadAll 1 rfl agg24 size24 ?_
          iterate 2 refine cond_no rfl ?_
          refine len_sl Try.underlying32 ?_
          refine cond_no rfl ?_
          refine call_fn (hr1 _) ?_
          rintro _ w17 ⟨rfl, hk⟩
          replace H := H.same hk
          clear hk
          iterate 3 refine cond_no rfl ?_
          refine H.loadAll 0 rfl agg24 size24 ?_
          iterate 2 refine cond_no rfl ?_
          refine len_sl Try.underlying32 ?_
          refine cond_no rfl ?_
          refine call_fn (hs1 _) ?_
          rintro _ w27 ⟨rfl, hk⟩
          replace H := H.same hk
          clear hk
          iterate 3 refine cond_no rfl ?_
          exact ⟨(), trivial, ⟨hord, hz, hz2⟩, H⟩
        · have hzb : (lessN s (allN ks.length) == 0) = false := by simpa using hz2
          rw [hzb] at hs1
          refine len_sl Try.underlying32 ?_
          iterate 2 refine cond_no (decide_eq_false (by assumption)) ?_
          refine call_fn (hc _ (hS.same H.keeps)) ?_
          rintro _ w7 ⟨rfl, hk⟩
          replace H := H.same hk
          clear hk
          iterate 2 refine cond_no (decide_eq_false (by assumption)) ?_
          refine cond_no rfl ?_
          refine H.loadAll 1 rfl agg24 size24 ?_
          iterate 2 refine cond_no rfl ?_
          refine len_sl Try.underlying32 ?_
          refine cond_no rfl ?_
          refine call_fn (hr1 _) ?_
          rintro _ w17 ⟨rfl, hk⟩
          replace H := H.same hk
          clear hk
          iterate 3 refine cond_no rfl ?_
          refine H.loadAll 0 rfl agg24 size24 ?_
          iterate 2 refine cond_no rfl ?_
          refine len_sl Try.underlying32 ?_
          refine cond_no rfl ?_
          refine call_fn (hs1 _) ?_
          rintro _ w27 ⟨rfl, hk⟩
          replace H := H.same hk
          clear hk
          iterate 2 refine cond_no rfl ?_
          refine cond_yes rfl ?_
          refine call_fn (c106 _) ?_
          rintro _ w31 ⟨rfl, hk⟩
          replace H := H.same hk
          clear hk
          exact ⟨rfl, H.keeps⟩
      · have hzb : (lessN r (allN ks.length) == 0) = false := by simpa using hz
        rw [hzb] at hr1
        refine len_sl Try.underlying32 ?_
        iterate 2 refine cond_no (decide_eq_false (by assumption)) ?_
        refine call_fn (hc _ (hS.same H.keeps)) ?_
        rintro _ w7 ⟨rfl, hk⟩
        replace H := H.same hk
        clear hk
        iterate 2 refine cond_no (decide_eq_false (by assumption)) ?_
        refine cond_no rfl ?_
        refine H.loadAll 1 rfl agg24 size24 ?_
        iterate 2 refine cond_no rfl ?_
        refine len_sl Try.underlying32 ?_
        refine cond_no rfl ?_
        refine call_fn (hr1 _) ?_
        rintro _ w17 ⟨rfl, hk⟩
        replace H := H.same hk
        clear hk
        iterate 2 refine cond_no rfl ?_
        iterate 7 refine cond_yes rfl ?_
        refine call_fn (c106 _) ?_
        rintro _ w28 ⟨rfl, hk⟩
        replace H := H.same hk
        clear hk
        exact ⟨rfl, H.keeps⟩
    · have hb : orderB ks = false := by rw [Bool.eq_false_iff]; exact fun h => hord ((ordB_iff ks).1 h)
      rw [hb] at hc
      refine len_sl Try.underlying32 ?_
      iterate 2 refine cond_no (decide_eq_false (by assumption)) ?_
      refine call_fn (hc _ (hS.same H.keeps)) ?_
      rintro _ w7 ⟨rfl, hk⟩
      replace H := H.same hk
      clear hk
      iterate 2 refine cond_no (decide_eq_false (by assumption)) ?_
      iterate 13 refine cond_yes rfl ?_
      refine call_fn (c106 _) ?_
      rintro _ w24 ⟨rfl, hk⟩
      replace H := H.same hk
      clear hk
      exact ⟨rfl, H.keeps⟩
  clear H
  rintro ⟨⟩ u w2 ⟨⟨hord, hrz, hsz⟩, H⟩
  replace H : Hp _ _ _ _ _ := H
  have ho : OrdO (natsI ks) := hord.nats
  have ho8 : (natsI ks).length ≤ 8 := ho.le
  have hkl : (natsI ks).length = ks.length := natsI_length ks
  have hS' := ord_sl hord hS
  rw [← hkl] at hrz hsz
  have hA0 : BInv (natsI ks).length [] := BInv.nil _
  have hok0 : ArOk (little : Int) [] := ok_start (by omega) (by omega)
  refine cut_rule (γ := Nat × Nat × Nat × Nat × Option Addr) _ rfl (fun (g, _) => [(9, .pointer (some ⟨g, 0, none⟩)), (10, .int .i64 0)]) (fun (g, ga, q, co, B') w' => Hp w (fun _ => False) w' [arR ga q (.slice none 0 0) little [], blk g6 24 (sc s), blk g5 24 (sc r)] (bdM g ga co B' (natsI ks) ++ [])) ?_ ?_
  · refine conv_i64 (by kernel_rfl) Try.underlying3 (by omega) (by omega) ?_
    refine call_fn (c113 ks B c little _ hl (hS.same H.keeps)) ?_
    rintro _ w5 (⟨h, _⟩ | ⟨_, _, _, g, ga, q, co, B', rfl, hn⟩)
    · rcases h with h | h | h
      · exact absurd hord h
      · omega
      · omega
    · exact ⟨(g, ga, q, co, B'), ⟨rfl, rfl, trivial⟩, (H.addNew hn).bdOpen.takeN 3⟩
  clear H
  rintro ⟨g, ga, q, co, B'⟩ u w3 H
  replace H : Hp _ _ _ _ _ := H
  refine cut_rule (γ := Unit) _ rfl (fun _ => []) (fun _ w' => Hp w (fun _ => False) w' [arR ga q (.slice none 0 0) little [], blk g6 24 (sc s), blk g5 24 (sc r)] (bdM g ga co B' (natsI ks) ++ [])) ?_ ?_
  · refine bin_eql123 ?_
    iterate 4 refine cond_no rfl ?_
    exact ⟨(), trivial, H⟩
  clear H
  rintro ⟨⟩ u w4 H
  replace H : Hp _ _ _ _ _ := H
  refine cut_rule (γ := Int × Int × Value × Ar) _ rfl (fun (f, e, _) => [(11, .int .i64 f), (12, .int .i64 e)]) (fun (f, e, sv1, A1) w' => (ArOk (little : Int) A1 ∧ Made (natsI ks).length little [] A1 (FnS (natsI ks) r) f e) ∧ Hp w (fun _ => False) w' [arR ga q sv1 little A1, blk g6 24 (sc s), blk g5 24 (sc r)] (bdM g ga co B' (natsI ks) ++ [])) ?_ ?_
  · refine H.loadAll 2 rfl agg24 size24 ?_
    refine call_fn (c108 ho ho8 hr _ hA0 hok0 H.bdAt') ?_
    rintro _ w5 ⟨A1, sv1, f, e, rfl, (⟨h, _⟩ | ⟨_, hm⟩), hok1, ht⟩
    · exact absurd hrz h
    · exact ⟨(f, e, sv1, A1), ⟨rfl, rfl, trivial⟩, ⟨hok1, hm⟩, H.turnBy 0 rfl ht⟩
  clear H hok0
  rintro ⟨f, e, sv1, A1⟩ u w5 ⟨⟨hok1, hm1⟩, H⟩
  replace H : Hp _ _ _ _ _ := H
  refine cut_rule (γ := Unit) _ rfl (fun _ => []) (fun _ w' => e = 0 ∧ Hp w (fun _ => False) w' [arR ga q sv1 little A1, blk g6 24 (sc s), blk g5 24 (sc r)] (bdM g ga co B' (natsI ks) ++ [])) ?_ ?_
  · refine cond_bne (fun he => ?_) (fun he => ?_)
    · obtain ⟨rfl, rfl, hlt⟩ := made_lack ho hm1 he
      have hc := fun w1 hO => c112 ho r B c w1 hO
      rw [hkl] at hc hS'
      iterate 4 refine cond_yes rfl ?_
      refine H.loadAll 2 rfl agg24 size24 ?_
      iterate 2 refine cond_yes rfl ?_
      refine call_fn (hc _ (hS'.same H.keeps)) ?_
      rintro _ w14 ⟨rfl, hk⟩
      replace H := H.same hk
      clear hk
      iterate 2 refine cond_yes rfl ?_
      refine conv_i64 (by kernel_rfl) Try.underlying3 (by omega) (by omega) ?_
      iterate 2 refine cond_yes rfl ?_
      refine cond_yes (decide_eq_true (by assumption)) ?_
      refine call_fn (c106 _) ?_
      rintro _ w21 ⟨rfl, hk⟩
      replace H := H.same hk
      clear hk
      refine cond_yes (decide_eq_true (by assumption)) ?_
      exact ⟨rfl, H.keeps⟩
    · exact ⟨(), trivial, he, H⟩
  clear H
  rintro ⟨⟩ u w6 ⟨rfl, H⟩
  replace H : Hp _ _ _ _ _ := H
  have hrep1 := hm1.ok
  refine cut_rule (γ := Int × Int × Value × Ar) _ rfl (fun (h, i, _) => [(13, .int .i64 h), (14, .int .i64 i)]) (fun (h, i, sv2, A2) w' => (ArOk (little : Int) A2 ∧ Made (natsI ks).length little A1 A2 (FnS (natsI ks) s) h i) ∧ Hp w (fun _ => False) w' [arR ga q sv2 little A2, blk g6 24 (sc s), blk g5 24 (sc r)] (bdM g ga co B' (natsI ks) ++ [])) ?_ ?_
  · refine H.loadAll 1 rfl agg24 size24 ?_
    refine call_fn (c108 ho ho8 hs _ hm1.inv hok1 H.bdAt') ?_
    rintro _ w5 ⟨A2, sv2, h, i, rfl, (⟨h, _⟩ | ⟨_, hm⟩), hok2, ht⟩
    · exact absurd hsz h
    · exact ⟨(h, i, sv2, A2), ⟨rfl, rfl, trivial⟩, ⟨hok2, hm⟩, H.turnBy 0 rfl ht⟩
  clear H
  rintro ⟨h, i, sv2, A2⟩ u w7 ⟨⟨hok2, hm2⟩, H⟩
  replace H : Hp _ _ _ _ _ := H
  have hrep2 := hrep1.ext hm1.inv.inv hm2.inv.inv hm2.ext
  have hfl := id_lt hok2 hrep2.there
  have hhl := made_id hm2 hok2
  have th : 0 ≤ lvlA A2 h := by
    rcases hm2.res with ⟨_, h⟩ | ⟨_, rfl, _⟩
    · exact h.there
    · exact end_there A2
  refine cut_rule (γ := Int × Int × Value × Ar) _ rfl (fun (x, k, _) => [(15, .int .i64 x), (16, .int .i64 k)]) (fun (x, k, sv3, A3) w' => (ArOk (little : Int) A3 ∧ Made (natsI ks).length little A2 A3 (iteF A2 f h 0) x k) ∧ Hp w (fun _ => False) w' [arR ga q sv3 little A3, blk g6 24 (sc s), blk g5 24 (sc r)] (bdM g ga co B' (natsI ks) ++ [])) ?_ ?_
  · refine call_fn (c114 ho8 f h (by omega) (by omega) _ hm2.inv hok2 H.bdAt') ?_
    rintro _ w5 ⟨A3, sv3, x, k, rfl, hm, hok3, ht⟩
    exact ⟨(x, k, sv3, A3), ⟨rfl, rfl, trivial⟩, ⟨hok3, hm.made hrep2.there th (end_there A2)⟩, H.turnBy 0 rfl ht⟩
  clear H
  rintro ⟨x, k, sv3, A3⟩ u w8 ⟨⟨hok3, hm3⟩, H⟩
  replace H : Hp _ _ _ _ _ := H
  have hrep3 := hrep2.ext hm2.inv.inv hm3.inv.inv hm3.ext
  refine cut_rule (γ := Nat) _ rfl (fun g17 => [(17, .pointer (some ⟨g17, 0, none⟩))]) (fun g17 w' => Hp w (fun _ => False) w' [arR ga q sv3 little A3, blk g17 24 (sc r), blk g6 24 (sc s), blk g5 24 (sc r)] (bdM g ga co B' (natsI ks) ++ [])) ?_ ?_
  · have hc := c110b ho f (by omega) _ hm3.inv hok3 H.bdAt'
    rw [if_pos hrep3.there, set_of ho hr hrep3 hrz] at hc
    refine call_fn hc ?_
    rintro _ w9 ⟨rfl, hk⟩
    replace H := H.same hk
    clear hk
    refine H.alloc 24 (cs := sc 0) zero24 sc_zero ?_
    clear H
    intro g5 w4 H
    refine H.storeSet 0 rfl ?_
    clear H
    intro w5 H
    exact ⟨g5, ⟨rfl, trivial⟩, H.front 1 rfl⟩
  clear H
  rintro g17 u w9 H
  replace H : Hp _ _ _ _ _ := H
  have hi : i = 0 ∨ (i = 5 ∧ h = 0) := by
    rcases hm2.res with ⟨h, _⟩ | ⟨h1, h2, _⟩
    · exact .inl h
    · exact .inr ⟨h1, h2⟩
  have hk : k = 0 ∨ (k = 5 ∧ x = 0) := by
    rcases hm3.res with ⟨h, _⟩ | ⟨h1, h2, _⟩
    · exact .inl h
    · exact .inr ⟨h1, h2⟩
  refine cut_rule (γ := Unit) _ rfl (fun _ => []) (fun _ w' => Hp w (fun _ => False) w' [arR ga q sv3 little A3, blk g17 24 (sc r), blk g6 24 (sc s), blk g5 24 (sc r)] (bdM g ga co B' (natsI ks) ++ [])) ?_ ?_
  · rcases hi with rfl | ⟨rfl, rfl⟩ <;> rcases hk with rfl | ⟨rfl, rfl⟩
    · refine H.loadAll 1 rfl agg24 size24 ?_
      refine H.loadAll 3 rfl agg24 size24 ?_
      refine bin_neq24 (by first | assumption | decide) (by first | assumption | decide) ?_
      iterate 3 refine cond_no (bne_eq_false_iff_eq.2 (by omega)) ?_
      iterate 2 refine cond_no rfl ?_
      refine cond_no (bne_eq_false_iff_eq.2 (by omega)) ?_
      refine cond_no rfl ?_
      refine cond_no (bne_eq_false_iff_eq.2 (by omega)) ?_
      iterate 9 refine cond_no rfl ?_
      exact ⟨(), trivial, H⟩
    · refine H.loadAll 1 rfl agg24 size24 ?_
      refine H.loadAll 3 rfl agg24 size24 ?_
      refine bin_neq24 (by first | assumption | decide) (by first | assumption | decide) ?_
      iterate 3 refine cond_no (bne_eq_false_iff_eq.2 (by omega)) ?_
      iterate 2 refine cond_no rfl ?_
      refine cond_no (bne_eq_false_iff_eq.2 (by omega)) ?_
      refine cond_no rfl ?_
      refine cond_no (bne_eq_false_iff_eq.2 (by omega)) ?_
      iterate 3 refine cond_no rfl ?_
      iterate 2 refine cond_yes rfl ?_
      refine cond_no rfl ?_
      refine cond_yes rfl ?_
      iterate 2 refine cond_no rfl ?_
      exact ⟨(), trivial, H⟩
    · refine H.loadAll 1 rfl agg24 size24 ?_
      refine H.loadAll 3 rfl agg24 size24 ?_
      refine bin_neq24 (by first | assumption | decide) (by first | assumption | decide) ?_
      iterate 3 refine cond_no (bne_eq_false_iff_eq.2 (by omega)) ?_
      iterate 2 refine cond_yes rfl ?_
      refine cond_no (bne_eq_false_iff_eq.2 (by omega)) ?_
      refine cond_yes rfl ?_
      refine cond_no (bne_eq_false_iff_eq.2 (by omega)) ?_
      iterate 9 refine cond_no rfl ?_
      exact ⟨(), trivial, H⟩
    · refine H.loadAll 1 rfl agg24 size24 ?_
      refine H.loadAll 3 rfl agg24 size24 ?_
      refine bin_neq24 (by first | assumption | decide) (by first | assumption | decide) ?_
      iterate 3 refine cond_no (bne_eq_false_iff_eq.2 (by omega)) ?_
      iterate 2 refine cond_yes rfl ?_
      refine cond_no (bne_eq_false_iff_eq.2 (by omega)) ?_
      refine cond_yes rfl ?_
      refine cond_no (bne_eq_false_iff_eq.2 (by omega)) ?_
      iterate 3 refine cond_no rfl ?_
      iterate 2 refine cond_yes rfl ?_
      refine cond_no rfl ?_
      refine cond_yes rfl ?_
      iterate 2 refine cond_no rfl ?_
      exact ⟨(), trivial, H⟩
  clear H
  rintro ⟨⟩ u w10 H
  replace H : Hp _ _ _ _ _ := H
  refine cut_rule (γ := Unit) _ rfl (fun _ => []) (fun _ w' => (i = 0 ∧ k = 0) ∧ Hp w (fun _ => False) w' [arR ga q sv3 little A3, blk g17 24 (sc r), blk g6 24 (sc s), blk g5 24 (sc r)] (bdM g ga co B' (natsI ks) ++ [])) ?_ ?_
  · rcases hi with rfl | ⟨rfl, rfl⟩ <;> rcases hk with rfl | ⟨rfl, rfl⟩
    · iterate 4 refine cond_no rfl ?_
      exact ⟨(), trivial, ⟨rfl, rfl⟩, H⟩
    · iterate 3 refine cond_no rfl ?_
      refine cond_yes rfl ?_
      iterate 6 refine cond_no rfl ?_
      refine cond_yes rfl ?_
      refine call_fn (c106 _) ?_
      rintro _ w23 ⟨rfl, hk⟩
      replace H := H.same hk
      clear hk
      refine cond_yes rfl ?_
      exact ⟨rfl, H.keeps⟩
    · iterate 11 refine cond_yes rfl ?_
      refine call_fn (c106 _) ?_
      rintro _ w23 ⟨rfl, hk⟩
      replace H := H.same hk
      clear hk
      refine cond_yes rfl ?_
      exact ⟨rfl, H.keeps⟩
    · iterate 11 refine cond_yes rfl ?_
      refine call_fn (c106 _) ?_
      rintro _ w23 ⟨rfl, hk⟩
      replace H := H.same hk
      clear hk
      refine cond_yes rfl ?_
      exact ⟨rfl, H.keeps⟩
  clear H
  rintro ⟨⟩ u w10 ⟨⟨rfl, rfl⟩, H⟩
  replace H : Hp _ _ _ _ _ := H
  have hrx := hm3.ok
  rw [ite_and hrep2 hm2.ok] at hrx
  have hset := and_set ho hr hrz hrx
  have hxl := id_lt hok3 hrx.there
  refine cut_rule (γ := Nat) _ rfl (fun g19 => [(19, .pointer (some ⟨g19, 0, none⟩))]) (fun g19 w' => Hp w (fun _ => False) w' [blk g19 24 (sc (r &&& s)), blk g6 24 (sc s), blk g5 24 (sc r)] (bdM g ga co B' (natsI ks) ++ [])) ?_ ?_
  · have hc := c110b ho x (by omega) _ hm3.inv hok3 H.bdAt'
    rw [if_pos hrx.there, hset] at hc
    refine call_fn hc ?_
    rintro _ w9 ⟨rfl, hk⟩
    replace H := H.same hk
    clear hk
    refine H.alloc 24 (cs := sc 0) zero24 sc_zero ?_
    clear H
    intro g5 w4 H
    refine H.storeSet 0 rfl ?_
    clear H
    intro w5 H
    exact ⟨g5, ⟨rfl, trivial⟩, (((H.front 1 rfl).forget.front 1 rfl).forget.front 0 rfl)⟩
  clear H
  rintro g19 u w11 H
  replace H : Hp _ _ _ _ _ := H
  refine H.draw fol (by kernel_rfl) ?_
  clear H
  intro w12 H
  refine quiet _ (fun w H => H.loadAll 0 rfl agg24 size24 ⟨rfl, rfl⟩) ?_
  refine quiet _ (fun w H => H.loadAll 2 rfl agg24 size24 ⟨rfl, rfl⟩) ?_
  refine quiet _ (fun w H => H.loadAll 1 rfl agg24 size24 ⟨rfl, rfl⟩) ?_
  refine call_fn (c51 _ _ _) ?_
  rintro _ w16 ⟨rfl, hk⟩
  replace H := H.same hk
  clear hk
  refine ⟨.inl H, ?_⟩
  have hand : r &&& s < 2 ^ 256 := Nat.lt_of_le_of_lt Nat.and_le_left hr
  refine quiet _ (fun w H => bin_eql24 (by first | assumption | decide) (by first | assumption | decide) ⟨rfl, rfl⟩) ?_
  refine cond_yes (beq_self_eq_true _) ?_
  refine call_fn (c106 _) ?_
  rintro _ w15 ⟨rfl, hk⟩
  replace H := H.same hk
  clear hk
  refine ⟨.inl H, ?_⟩
  refine cond_yes (beq_self_eq_true _) ?_
  exact ⟨rfl, H.keeps⟩
theorem law22 (v : Value) (r : Nat) (hr : r < 2 ^ 256) (s : Nat) (hs : s < 2 ^ 256) (little : Nat) (hlit : little < 256) (w : World) {ks : List Int} (hk : IntsAt w v ks) : Fun Try.prog 22 [v, sv r, sv s, .int .u8 (little : Int)] w fun v w' => v = .bool true ∧ Same w w' := by
  obtain ⟨B, c, rfl, hl, _, hS⟩ := hk
  exact law22_m ks B c r s hr hs little hlit w hl hS
end Go.Proofs.Ytjebpngdinbckaa
end

section
/- Law 23. -/
namespace Go.Proofs.Ytjebpngdinbckaa
open Go.Dk
attribute [local irreducible] IntKind.wrap

theorem live_sweep {A : Ar} (h : ArInv A) (ids : List Int) : liveA (sweepA A ids) ≤ liveA A := by
  rw [live_range A A.length (Nat.le_refl _), live_range (sweepA A ids) A.length (by unfold sweepA; rw [sweepTo_length]; exact Nat.le_refl _), ← List.countP_eq_length_filter, ← List.countP_eq_length_filter]
  refine List.countP_mono_left fun i _ hi => ?_
  obtain ⟨d, hd⟩ := Option.isSome_iff_exists.1 hi
  rw [((slot_sweep h ids i d).1 hd).1]; rfl
theorem binv_sweep {n : Nat} {A : Ar} (h : BInv n A) (ids : List Int) : BInv n (sweepA A ids) :=
  ⟨inv_sweep h.inv ids, fun i d hs => h.lt i d ((slot_sweep h.inv ids i d).1 hs).1, fun i d hs => h.ne i d ((slot_sweep h.inv ids i d).1 hs).1⟩
theorem sweep_sem {A : Ar} (h : ArInv A) (ids : List Int) (a : Asg) : ∀ id, (∀ x, Rch A id x → ∃ k ∈ ids, Rch A k x) → sem (sweepA A ids) id a = sem A id a := by
  refine lvl_induct h (fun id hd _ => ?_) (fun id d hd ih1 ih2 hr => ?_)
  · have : ndA (sweepA A ids) id = none := by
      cases hn : ndA (sweepA A ids) id with
      | none => rfl
      | some d =>
        obtain ⟨i, rfl, hs⟩ := nd_place hn
        have := ((slot_sweep h ids i d).1 hs).1
        rw [nd_slot, this] at hd; cases hd
    rw [sem_none hd, sem_none this]
  · obtain ⟨i, rfl, hs⟩ := nd_place hd
    have hi := fun x => rch_iff (x := x) hs
    have hk : slot (sweepA A ids) i = some d := (slot_sweep h ids i d).2 ⟨hs, hr i ((hi i).2 (.inl rfl))⟩
    have hd' : ndA (sweepA A ids) ((i : Int) + 2) = some d := by rw [nd_slot]; exact hk
    rw [sem_node h hd, sem_node (inv_sweep h ids) hd']
    split
    · exact ih2 fun x hx => hr x ((hi x).2 (.inr (.inr hx)))
    · exact ih1 fun x hx => hr x ((hi x).2 (.inr (.inl hx)))
theorem sweep_rep {A : Ar} (h : ArInv A) {ids : List Int} {f : Int} (hf : f ∈ ids) {F : Dk.Fn} (hr : Rep A f F) : Rep (sweepA A ids) f F := by
  refine ⟨?_, fun a => by rw [sweep_sem h ids a f fun x hx => ⟨f, hf, hx⟩]; exact hr.says a⟩
  rcases lvlA_node hr.there with rfl | rfl | ⟨i, d, rfl, hs, _⟩
  · exact end_there _
  · exact one_there _
  · have hk : slot (sweepA A ids) i = some d := (slot_sweep h ids i d).2 ⟨hs, _, hf, (rch_iff hs).2 (.inl rfl)⟩
    rw [lvlA_slot hk]; omega
theorem rep_or {A : Ar} {f g : Int} {F G : Dk.Fn} (hf : Rep A f F) (hg : Rep A g G) : iteF A f 1 g = fun a => F a || G a := by
  funext a
  unfold iteF
  rw [hf.says, hg.says, sem_none (nd_end (.inr rfl))]
  cases F a <;> rfl
theorem FnS_eq {o : List Nat} (ho : OrdO o) {r s : Nat} (hr : r < 2 ^ 256) (hs : s < 2 ^ 256) (hrz : lessN r (allN o.length) = 0) (hsz : lessN s (allN o.length) = 0) : (∀ a, FnS o r a = FnS o s a) ↔ r = s :=
  ⟨FnS_inj ho hr hs (less_all hr hrz) (less_all hs hsz), fun h a => by rw [h]⟩
theorem or_and {F G : Dk.Fn} : (∀ a, (F a || G a) = (F a && G a)) ↔ ∀ a, F a = G a := by
  constructor
  · intro h a
    have := h a
    cases hF : F a <;> cases hG : G a <;> rw [hF, hG] at this <;> first | rfl | (exact absurd this (by decide))
  · intro h a
    rw [h a]
    cases G a <;> rfl
theorem blk_sl {w : World} {g : Nat} {t : TypeId} {cs : Array Value} {n : Nat} (h : (blk g t cs).ok w) (hn : cs.size = n) (hm : n ≤ maxLen) : (sl (fun x => x = g) (.slice (some ⟨g, 0, none⟩) n n) 1 n cs.toList).ok w := by
  subst hn
  have h2 : (own t 1 (.slice (some ⟨g, 0, none⟩) cs.size cs.size) cs.size cs.toList).ok w := ⟨by simp, .inr ⟨g, cs.size, cs, rfl, Nat.zero_le _, h, Nat.le_refl _, hm, by simp, by rw [Nat.mul_one, ← Array.length_toList]; exact List.take_length⟩⟩
  exact sl.mono (own_sl h2) fun x hx => by
    have hx : some g = some x := hx
    injection hx with hx
    exact hx.symm
theorem ent23 : enters Try.prog 23 = true := by kernel_rfl
theorem law23_m (ks : List Int) (B : Option Addr) (c : Nat) (r s t : Nat) (hr : r < 2 ^ 256) (hs : s < 2 ^ 256) (ht : t < 2 ^ 256) (w : World) (hl : ks.length ≤ 9223372036854775807) (hS : Sl w (.slice B ks.length c) 1 ks.length (intsI ks)) :
    Fun Try.prog 23 [.slice B ks.length c, sv r, sv s, sv t] w fun v w' => v = .bool true ∧ Same w w' := by
  refine fun_of_W (N := 137) Try.func23 ent23 rfl rfl rfl (by simp) ?_
  have H := Hp.start0 w
  refine cut_rule (γ := Nat × Nat × Nat) _ rfl (fun (g5, g6, g7) => [(5, .pointer (some ⟨g5, 0, none⟩)), (6, .pointer (some ⟨g6, 0, none⟩)), (7, .pointer (some ⟨g7, 0, none⟩))]) (fun (g5, g6, g7) w' => Hp w (fun _ => False) w' [blk g7 24 (sc t), blk g6 24 (sc s), blk g5 24 (sc r)] []) ?_ ?_
  · refine H.box 24 (sv r) (cs := sc r) rfl ?_
    clear H
    intro g5 w1 H
    refine H.box 24 (sv s) (cs := sc s) rfl ?_
    clear H
    intro g6 w1 H
    refine H.box 24 (sv t) (cs := sc t) rfl ?_
    clear H
    intro g7 w1 H
    exact ⟨(g5, g6, g7), ⟨rfl, rfl, rfl, trivial⟩, H⟩
  clear H
  rintro ⟨g5, g6, g7⟩ u w1 H
  replace H : Hp _ _ _ _ _ := H
  refine cut_rule (γ := Unit) _ rfl (fun _ => []) (fun _ w' => ks.length ≤ 20 ∧ Hp w (fun _ => False) w' [blk g7 24 (sc t), blk g6 24 (sc s), blk g5 24 (sc r)] []) ?_ ?_
  · refine len_sl Try.underlying32 ?_
    refine cond_dec (fun h3 => ?_) (fun h3 => ?_)
    · refine call_fn (c106 _) ?_
      rintro _ w4 ⟨rfl, hk⟩
      replace H := H.same hk
      clear hk
      exact ⟨rfl, H.keeps⟩
    · exact ⟨(), trivial, by omega, H⟩
  clear H
  rintro ⟨⟩ u w2 ⟨h20, H⟩
  replace H : Hp _ _ _ _ _ := H
  refine call_fn (c107 ks B c _ hl (hS.same H.keeps)) ?_
  rintro _ w3 (⟨hno, rfl, hk⟩ | ⟨hord, g, ga, q, co, B', rfl, hn⟩)
  · replace H := H.same hk
    clear hk
    refine bin_eql123z ?_
    iterate 5 refine cond_yes rfl ?_
    refine call_fn (c106 _) ?_
    rintro _ w13 ⟨rfl, hk⟩
    replace H := H.same hk
    clear hk
    refine cond_yes rfl ?_
    exact ⟨rfl, H.keeps⟩
  replace H := (H.addNew hn).bdOpen.takeN 4
  have ho : OrdO (natsI ks) := hord.nats
  have ho8 : (natsI ks).length ≤ 8 := ho.le
  have hkl : (natsI ks).length = ks.length := natsI_length ks
  have hS' := ord_sl hord hS
  have hA0 : BInv (natsI ks).length [] := BInv.nil _
  have hok0 : ArOk 20000 [] := ok_start (by decide) (by decide)
  refine cut_rule (γ := Unit) _ rfl (fun _ => [(9, .pointer (some ⟨g, 0, none⟩))]) (fun _ w' => Hp w (fun _ => False) w' [arR ga q (.slice none 0 0) 20000 [], blk g7 24 (sc t), blk g6 24 (sc s), blk g5 24 (sc r)] (bdM g ga co B' (natsI ks) ++ [])) ?_ ?_
  · refine bin_eql123 ?_
    iterate 4 refine cond_no rfl ?_
    exact ⟨(), ⟨rfl, trivial⟩, H⟩
  clear H
  rintro ⟨⟩ u w4 H
  replace H : Hp _ _ _ _ _ := H
  refine cut_rule (γ := Unit) _ rfl (fun _ => [(11, .int .i64 ((natsI ks).length : Int))]) (fun _ w' => Hp w (fun _ => False) w' [arR ga q (.slice none 0 0) 20000 [], blk g7 24 (sc t), blk g6 24 (sc s), blk g5 24 (sc r)] (bdM g ga co B' (natsI ks) ++ [])) ?_ ?_
  · refine len_sl Try.underlying32 ?_
    rw [hkl]
    exact ⟨(), ⟨rfl, trivial⟩, H⟩
  clear H
  rintro ⟨⟩ u w5 H
  replace H : Hp _ _ _ _ _ := H
  refine cut_rule (γ := Unit) _ rfl (fun _ => []) (fun _ w' => (lessN r (allN (natsI ks).length) = 0 ∧ lessN s (allN (natsI ks).length) = 0 ∧ lessN t (allN (natsI ks).length) = 0) ∧ Hp w (fun _ => False) w' [arR ga q (.slice none 0 0) 20000 [], blk g7 24 (sc t), blk g6 24 (sc s), blk g5 24 (sc r)] (bdM g ga co B' (natsI ks) ++ [])) ?_ ?_
  · have hr1 := fun w1 => c109' r (natsI ks).length hr ho8 w1
    have hs1 := fun w1 => c109' s (natsI ks).length hs ho8 w1
    have ht1 := fun w1 => c109' t (natsI ks).length ht ho8 w1
    by_cases hz : lessN r (allN (natsI ks).length) = 0
    · rw [show (lessN r (allN (natsI ks).length) == 0) = true by simpa using hz] at hr1
      by_cases hz2 : lessN s (allN (natsI ks).length) = 0
      · rw [show (lessN s (allN (natsI ks).length) == 0) = true by simpa using hz2] at hs1
        by_cases hz3 : lessN t (allN (natsI ks).length) = 0
        · rw [show (lessN t (allN (natsI ks).length) == 0) = true by simpa using hz3] at ht1
          refine H.loadAll 3 rfl agg24 size24 ?_
          refine call_fn (hr1 _) ?_
          rintro _ w9 ⟨rfl, hk⟩
          replace H := H.same hk
          clear hk
          refine cond_no rfl ?_
          refine H.loadAll 2 rfl agg24 size24 ?_
          iterate 2 refine cond_no rfl ?_
          refine call_fn (hs1 _) ?_
          rintro _ w14 ⟨rfl, hk⟩
          replace H := H.same hk
          clear hk
          iterate 3 refine cond_no rfl ?_
          refine H.loadAll 1 rfl agg24 size24 ?_
          iterate 2 refine cond_no rfl ?_
          refine call_fn (ht1 _) ?_
          rintro _ w22 ⟨rfl, hk⟩
          replace H := H.same hk
          clear hk
          iterate 3 refine cond_no rfl ?_
          exact ⟨(), trivial, ⟨hz, hz2, hz3⟩, H⟩
        · rw [show (lessN t (allN (natsI ks).length) == 0) = false by simpa using hz3] at ht1
          refine H.loadAll 3 rfl agg24 size24 ?_
          refine call_fn (hr1 _) ?_
          rintro _ w9 ⟨rfl, hk⟩
          replace H := H.same hk
          clear hk
          refine cond_no rfl ?_
          refine H.loadAll 2 rfl agg24 size24 ?_
          iterate 2 refine cond_no rfl ?_
          refine call_fn (hs1 _) ?_
          rintro _ w14 ⟨rfl, hk⟩
          replace H := H.same hk
          clear hk
          iterate 3 refine cond_no rfl ?_
          refine H.loadAll 1 rfl agg24 size24 ?_
          iterate 2 refine cond_no rfl ?_
          refine call_fn (ht1 _) ?_
          rintro _ w22 ⟨rfl, hk⟩
          replace H := H.same hk
          clear hk
          iterate 2 refine cond_no rfl ?_
          refine cond_yes rfl ?_
          refine call_fn (c106 _) ?_
          rintro _ w26 ⟨rfl, hk⟩
          replace H := H.same hk
          clear hk
          exact ⟨rfl, H.keeps⟩
      · rw [show (lessN s (allN (natsI ks).length) == 0) = false by simpa using hz2] at hs1
        refine H.loadAll 3 rfl agg24 size24 ?_
        refine call_fn (hr1 _) ?_
        rintro _ w9 ⟨rfl, hk⟩
        replace H := H.same hk
        clear hk
        refine cond_no rfl ?_
        refine H.loadAll 2 rfl agg24 size24 ?_
        iterate 2 refine cond_no rfl ?_
        refine call_fn (hs1 _) ?_
        rintro _ w14 ⟨rfl, hk⟩
        replace H := H.same hk
        clear hk
        iterate 2 refine cond_no rfl ?_
        iterate 6 refine cond_yes rfl ?_
        refine call_fn (c106 _) ?_
        rintro _ w24 ⟨rfl, hk⟩
        replace H := H.same hk
        clear hk
        exact ⟨rfl, H.keeps⟩
    · rw [show (lessN r (allN (natsI ks).length) == 0) = false by simpa using hz] at hr1
      refine H.loadAll 3 rfl agg24 size24 ?_
      refine call_fn (hr1 _) ?_
      rintro _ w9 ⟨rfl, hk⟩
      replace H := H.same hk
      clear hk
      iterate 11 refine cond_yes rfl ?_
      refine call_fn (c106 _) ?_
      rintro _ w22 ⟨rfl, hk⟩
      replace H := H.same hk
      clear hk
      exact ⟨rfl, H.keeps⟩
  clear H
  rintro ⟨⟩ u w6 ⟨⟨hrz, hsz, htz⟩, H⟩
  replace H : Hp _ _ _ _ _ := H
  refine cut_rule (γ := Int × Value × Ar) _ rfl (fun (f, _) => [(12, .int .i64 f), (13, .int .i64 0)]) (fun (f, sv1, A1) w' => (ArOk 20000 A1 ∧ BInv (natsI ks).length A1 ∧ liveA A1 ≤ 255 ∧ Rep A1 f (FnS (natsI ks) r)) ∧ Hp w (fun _ => False) w' [arR ga q sv1 20000 A1, blk g7 24 (sc t), blk g6 24 (sc s), blk g5 24 (sc r)] (bdM g ga co B' (natsI ks) ++ [])) ?_ ?_
  · refine H.loadAll 3 rfl agg24 size24 ?_
    refine call_fn (c108 ho ho8 hr _ hA0 hok0 H.bdAt') ?_
    rintro _ w5 ⟨A1, sv1, f, e, rfl, (⟨h, _⟩ | ⟨_, hm⟩), hok1, ht⟩
    · exact absurd hrz h
    · obtain ⟨rfl, hr, hl⟩ := made_small hm (FnS_low ho _) ho8 (q := 0) (by decide) (by decide)
      exact ⟨(f, sv1, A1), ⟨rfl, rfl, trivial⟩, ⟨hok1, hm.inv, hl, hr⟩, H.turnBy 0 rfl ht⟩
  clear H hok0 hA0
  rintro ⟨f, sv1, A1⟩ u w7 ⟨⟨hok1, hA1, hl1, hr1⟩, H⟩
  replace H : Hp _ _ _ _ _ := H
  refine cut_rule (γ := Value × Ar) _ rfl (fun _ => []) (fun (sv2, A2) w' => (ArOk 20000 A2 ∧ BInv (natsI ks).length A2 ∧ liveA A2 ≤ 510 ∧ Rep A2 f (FnS (natsI ks) r)) ∧ Hp w (fun _ => False) w' [arR ga q sv2 20000 A2, blk g7 24 (sc t), blk g6 24 (sc s), blk g5 24 (sc r)] (bdM g ga co B' (natsI ks) ++ [])) ?_ ?_
  · refine H.loadAll 1 rfl agg24 size24 ?_
    refine call_fn (c108 ho ho8 ht _ hA1 hok1 H.bdAt') ?_
    rintro _ w5 ⟨A2, sv2, f2, e, rfl, (⟨h, _⟩ | ⟨_, hm⟩), hok2, ht⟩
    · exact absurd htz h
    · obtain ⟨rfl, _, hl⟩ := made_small hm (FnS_low ho _) ho8 hl1 (by decide)
      exact ⟨(sv2, A2), trivial, ⟨hok2, hm.inv, hl, hr1.ext hA1.inv hm.inv.inv hm.ext⟩, H.turnBy 0 rfl ht⟩
  clear H hok1 hA1 hl1 hr1
  rintro ⟨sv2, A2⟩ u w8 ⟨⟨hok2, hA2, hl2, hr2⟩, H⟩
  replace H : Hp _ _ _ _ _ := H
  have tf2 := id_lt hok2 hr2.there
  refine cut_rule (γ := Unit) _ rfl (fun _ => []) (fun _ w' => Hp w (fun _ => False) w' [arR ga q sv2 20000 (sweepA A2 [f]), blk g7 24 (sc t), blk g6 24 (sc s), blk g5 24 (sc r)] (bdM g ga co B' (natsI ks) ++ [])) ?_ ?_
  · refine H.buildOne T32 rfl ?_
    clear H
    intro gk w9 H
    have H2 := H.freeze
    refine call_fn (c115 (n := (natsI ks).length) (c := co) (B := B') hok2 [f] (fun k hk => by rw [List.mem_singleton] at hk; subst hk; omega) (by show 1 < 4611686018427387904; decide) (S := fun x => x = gk) _ (H2.ro 1 rfl) (H2.get 0 rfl) (H2.rdis _ (.tail _ (.head _)) _ (.head _) _ rfl) ?_ ?_ ?_) ?_
    · exact blk_sl (H.get 0 rfl) rfl (by show 1 ≤ maxLen; decide)
    · rintro x rfl; exact H2.rlt _ (.head _) _ rfl
    · rintro x rfl; exact H2.rdis _ (.head _) _ (.head _) _ rfl
    rintro _ w10 ⟨rfl, ht⟩
    exact ⟨(), trivial, (H2.turnBy 0 rfl ht).forgetRO⟩
  clear H
  rintro ⟨⟩ u w9 H
  replace H : Hp _ _ _ _ _ := H
  replace hr2 := sweep_rep hA2.inv (ids := [f]) (.head _) hr2
  replace hl2 := Nat.le_trans (live_sweep hA2.inv [f]) hl2
  replace hA2 := binv_sweep hA2 [f]
  replace hok2 := ok_sweep hok2 [f]
  generalize sweepA A2 [f] = A2 at hr2 hl2 hA2 hok2 H
  refine cut_rule (γ := Int × Value × Ar) _ rfl (fun (x, _) => [(14, .int .i64 x), (15, .int .i64 0)]) (fun (x, sv3, A3) w' => (ArOk 20000 A3 ∧ BInv (natsI ks).length A3 ∧ liveA A3 ≤ 765 ∧ Rep A3 f (FnS (natsI ks) r) ∧ Rep A3 x (FnS (natsI ks) s)) ∧ Hp w (fun _ => False) w' [arR ga q sv3 20000 A3, blk g7 24 (sc t), blk g6 24 (sc s), blk g5 24 (sc r)] (bdM g ga co B' (natsI ks) ++ [])) ?_ ?_
  · refine H.loadAll 2 rfl agg24 size24 ?_
    refine call_fn (c108 ho ho8 hs _ hA2 hok2 H.bdAt') ?_
    rintro _ w5 ⟨A3, sv3, f3, e, rfl, (⟨h, _⟩ | ⟨_, hm⟩), hok3, ht⟩
    · exact absurd hsz h
    · obtain ⟨rfl, hr3, hl⟩ := made_small hm (FnS_low ho _) ho8 hl2 (by decide)
      exact ⟨(f3, sv3, A3), ⟨rfl, rfl, trivial⟩, ⟨hok3, hm.inv, hl, hr2.ext hA2.inv hm.inv.inv hm.ext, hr3⟩, H.turnBy 0 rfl ht⟩
  clear H hok2 hA2 hl2 hr2 tf2
  rintro ⟨f3, sv3, A3⟩ u w10 ⟨⟨hok3, hA3, hl3, hr3, hs3⟩, H⟩
  replace H : Hp _ _ _ _ _ := H
  have tf := id_lt hok3 hr3.there
  have tg := id_lt hok3 hs3.there
  refine cut_rule (γ := Int × Value × Ar) _ rfl (fun (x, _) => [(16, .int .i64 x), (17, .int .i64 0)]) (fun (x, sv4, A4) w' => (ArOk 20000 A4 ∧ BInv (natsI ks).length A4 ∧ liveA A4 ≤ 1020 ∧ Rep A4 f (FnS (natsI ks) r) ∧ Rep A4 f3 (FnS (natsI ks) s) ∧ Rep A4 x (fun a => FnS (natsI ks) r a || FnS (natsI ks) s a)) ∧ Hp w (fun _ => False) w' [arR ga q sv4 20000 A4, blk g7 24 (sc t), blk g6 24 (sc s), blk g5 24 (sc r)] (bdM g ga co B' (natsI ks) ++ [])) ?_ ?_
  · refine call_fn (c116 ho8 f f3 (by omega) (by omega) _ hA3 hok3 H.bdAt') ?_
    rintro _ w5 ⟨A4, sv4, x, e, rfl, hm, hok4, ht⟩
    have hm := hm.made hr3.there (one_there _) hs3.there
    obtain ⟨rfl, hr, hl⟩ := made_small hm (iteF_low hA3 _ _ _) ho8 hl3 (by decide)
    rw [rep_or hr3 hs3] at hr
    exact ⟨(x, sv4, A4), ⟨rfl, rfl, trivial⟩, ⟨hok4, hm.inv, hl, hr3.ext hA3.inv hm.inv.inv hm.ext, hs3.ext hA3.inv hm.inv.inv hm.ext, hr⟩, H.turnBy 0 rfl ht⟩
  clear H hok3 hA3 hl3 hr3 hs3
  rintro ⟨x, sv4, A4⟩ u w11 ⟨⟨hok4, hA4, hl4, hr4, hs4, hx4⟩, H⟩
  replace H : Hp _ _ _ _ _ := H
  refine cut_rule (γ := Int × Value × Ar) _ rfl (fun (y, _) => [(18, .int .i64 y), (19, .int .i64 0)]) (fun (y, sv5, A5) w' => (ArOk 20000 A5 ∧ BInv (natsI ks).length A5 ∧ liveA A5 ≤ 1275 ∧ Rep A5 f (FnS (natsI ks) r) ∧ Rep A5 f3 (FnS (natsI ks) s) ∧ Rep A5 x (fun a => FnS (natsI ks) r a || FnS (natsI ks) s a) ∧ Rep A5 y (fun a => FnS (natsI ks) r a && FnS (natsI ks) s a)) ∧ Hp w (fun _ => False) w' [arR ga q sv5 20000 A5, blk g7 24 (sc t), blk g6 24 (sc s), blk g5 24 (sc r)] (bdM g ga co B' (natsI ks) ++ [])) ?_ ?_
  · refine call_fn (c114 ho8 f f3 (by omega) (by omega) _ hA4 hok4 H.bdAt') ?_
    rintro _ w5 ⟨A5, sv5, y, e, rfl, hm, hok5, ht⟩
    have hm := hm.made hr4.there hs4.there (end_there _)
    obtain ⟨rfl, hr, hl⟩ := made_small hm (iteF_low hA4 _ _ _) ho8 hl4 (by decide)
    rw [ite_and hr4 hs4] at hr
    exact ⟨(y, sv5, A5), ⟨rfl, rfl, trivial⟩, ⟨hok5, hm.inv, hl, hr4.ext hA4.inv hm.inv.inv hm.ext, hs4.ext hA4.inv hm.inv.inv hm.ext, hx4.ext hA4.inv hm.inv.inv hm.ext, hr⟩, H.turnBy 0 rfl ht⟩
  clear H hok4 hA4 hl4 hr4 hs4 hx4
  rintro ⟨y, sv5, A5⟩ u w12 ⟨⟨hok5, hA5, hl5, hr5, hs5, hx5, hy5⟩, H⟩
  replace H : Hp _ _ _ _ _ := H
  refine cut_rule (γ := Value × Ar) _ rfl (fun _ => [(20, .int .i64 x), (21, .int .i64 0)]) (fun (sv6, A6) w' => (ArOk 20000 A6 ∧ BInv (natsI ks).length A6 ∧ Rep A6 f (FnS (natsI ks) r) ∧ Rep A6 f3 (FnS (natsI ks) s) ∧ Rep A6 x (fun a => FnS (natsI ks) r a || FnS (natsI ks) s a) ∧ Rep A6 y (fun a => FnS (natsI ks) r a && FnS (natsI ks) s a)) ∧ Hp w (fun _ => False) w' [arR ga q sv6 20000 A6, blk g7 24 (sc t), blk g6 24 (sc s), blk g5 24 (sc r)] (bdM g ga co B' (natsI ks) ++ [])) ?_ ?_
  · refine call_fn (c117 ho8 f 1 f3 (by omega) (by decide) (by omega) _ hA5 hok5 H.bdAt') ?_
    rintro _ w5 ⟨A6, sv6, z, e, rfl, hm, hok6, ht⟩
    have hm := hm.made hr5.there (one_there _) hs5.there
    obtain ⟨rfl, hr, hl⟩ := made_small hm (iteF_low hA5 _ _ _) ho8 hl5 (by decide)
    rw [rep_or hr5 hs5] at hr
    have hx6 := hx5.ext hA5.inv hm.inv.inv hm.ext
    obtain rfl := rep_canon hm.inv hr hx6
    exact ⟨(sv6, A6), ⟨rfl, rfl, trivial⟩, ⟨hok6, hm.inv, hr5.ext hA5.inv hm.inv.inv hm.ext, hs5.ext hA5.inv hm.inv.inv hm.ext, hx6, hy5.ext hA5.inv hm.inv.inv hm.ext⟩, H.turnBy 0 rfl ht⟩
  clear H hok5 hA5 hl5 hr5 hs5 hx5 hy5
  rintro ⟨sv6, A6⟩ u w13 ⟨⟨hok6, hA6, hr6, hs6, hx6, hy6⟩, H⟩
  replace H : Hp _ _ _ _ _ := H
  refine cut_rule (γ := Nat) _ rfl (fun g22 => [(22, .pointer (some ⟨g22, 0, none⟩))]) (fun g22 w' => Hp w (fun _ => False) w' [blk g22 24 (sc r), blk g7 24 (sc t), blk g6 24 (sc s), blk g5 24 (sc r)] (bdM g ga co B' (natsI ks) ++ [])) ?_ ?_
  · have hc := c110b ho f (by omega) _ hA6 hok6 H.bdAt'
    rw [if_pos hr6.there, set_of ho hr hr6 hrz] at hc
    refine call_fn hc ?_
    rintro _ w9 ⟨rfl, hk⟩
    replace H := H.same hk
    clear hk
    refine H.alloc 24 (cs := sc 0) zero24 sc_zero ?_
    clear H
    intro g8 w4 H
    refine H.storeSet 0 rfl ?_
    clear H
    intro w5 H
    exact ⟨g8, ⟨rfl, trivial⟩, (H.front 1 rfl).forget⟩
  clear H
  rintro g22 u w14 H
  replace H : Hp _ _ _ _ _ := H
  have e1 : (f == f3) = (r == s) := by
    rw [Bool.eq_iff_iff, beq_iff_eq, beq_iff_eq, rep_eq hA6 hr6 hs6]
    exact FnS_eq ho hr hs hrz hsz
  have e2 : (x == y) = (r == s) := by
    rw [Bool.eq_iff_iff, beq_iff_eq, beq_iff_eq, rep_eq hA6 hx6 hy6]
    exact or_and.trans (FnS_eq ho hr hs hrz hsz)
  cases hb : r == s with
  | true =>
    rw [hb] at e1 e2
    refine H.loadAll 3 rfl agg24 size24 ?_
    refine H.loadAll 2 rfl agg24 size24 ?_
    refine bin_eql24 (by first | assumption | decide) (by first | assumption | decide) ?_
    refine bin_eql_bool Try.underlying4 ?_
    refine cond_dec (fun h19 => ?_) (fun h19 => ?_)
    · refine cond_yes (beq_iff_eq.2 (by assumption)) ?_
      iterate 2 refine cond_yes (beq_iff_eq.2 (by assumption)) ?_
      refine H.loadAll 3 rfl agg24 size24 ?_
      refine cond_yes (beq_iff_eq.2 (by assumption)) ?_
      refine H.loadAll 2 rfl agg24 size24 ?_
      refine cond_yes (beq_iff_eq.2 (by assumption)) ?_
      refine bin_eql24 (by first | assumption | decide) (by first | assumption | decide) ?_
      refine cond_yes (beq_iff_eq.2 (by assumption)) ?_
      refine bin_eql_bool Try.underlying4 ?_
      refine cond_yes (beq_iff_eq.2 (by assumption)) ?_
      refine cond_dec (fun h33 => ?_) (fun h33 => ?_)
      · refine cond_yes (beq_iff_eq.2 (by assumption)) ?_
        iterate 2 refine cond_yes (beq_iff_eq.2 (by assumption)) ?_
        refine cond_yes (beq_self_eq_true _) ?_
        refine H.loadAll 0 rfl agg24 size24 ?_
        refine cond_yes (beq_self_eq_true _) ?_
        refine H.loadAll 3 rfl agg24 size24 ?_
        refine cond_yes (beq_self_eq_true _) ?_
        refine bin_eql24 (by first | assumption | decide) (by first | assumption | decide) ?_
        iterate 2 refine cond_yes (beq_self_eq_true _) ?_
        refine call_fn (c106 _) ?_
        rintro _ w45 ⟨rfl, hk⟩
        replace H := H.same hk
        clear hk
        refine cond_yes (beq_self_eq_true _) ?_
        exact ⟨rfl, H.keeps⟩
      · refine cond_no (beq_eq_false_iff_ne.2 (by assumption)) ?_
        iterate 2 refine cond_no (beq_eq_false_iff_ne.2 (by assumption)) ?_
        iterate 6 refine cond_no rfl ?_
        refine ⟨congrArg Value.bool ?_, H.keeps⟩
        exact absurd (e2.trans hb.symm) h33
    · refine cond_no (beq_eq_false_iff_ne.2 (by assumption)) ?_
      iterate 6 refine cond_no (beq_eq_false_iff_ne.2 (by assumption)) ?_
      iterate 10 refine cond_no rfl ?_
      refine ⟨congrArg Value.bool ?_, H.keeps⟩
      exact absurd (e1.trans hb.symm) h19
  | false =>
    rw [hb] at e1 e2
    refine H.loadAll 3 rfl agg24 size24 ?_
    refine H.loadAll 2 rfl agg24 size24 ?_
    refine bin_eql24 (by first | assumption | decide) (by first | assumption | decide) ?_
    refine bin_eql_bool Try.underlying4 ?_
    refine cond_dec (fun h19 => ?_) (fun h19 => ?_)
    · refine cond_yes (beq_iff_eq.2 (by assumption)) ?_
      iterate 2 refine cond_yes (beq_iff_eq.2 (by assumption)) ?_
      refine H.loadAll 3 rfl agg24 size24 ?_
      refine cond_yes (beq_iff_eq.2 (by assumption)) ?_
      refine H.loadAll 2 rfl agg24 size24 ?_
      refine cond_yes (beq_iff_eq.2 (by assumption)) ?_
      refine bin_eql24 (by first | assumption | decide) (by first | assumption | decide) ?_
      refine cond_yes (beq_iff_eq.2 (by assumption)) ?_
      refine bin_eql_bool Try.underlying4 ?_
      refine cond_yes (beq_iff_eq.2 (by assumption)) ?_
      refine cond_dec (fun h33 => ?_) (fun h33 => ?_)
      · refine cond_yes (beq_iff_eq.2 (by assumption)) ?_
        iterate 2 refine cond_yes (beq_iff_eq.2 (by assumption)) ?_
        refine cond_yes (beq_self_eq_true _) ?_
        refine H.loadAll 0 rfl agg24 size24 ?_
        refine cond_yes (beq_self_eq_true _) ?_
        refine H.loadAll 3 rfl agg24 size24 ?_
        refine cond_yes (beq_self_eq_true _) ?_
        refine bin_eql24 (by first | assumption | decide) (by first | assumption | decide) ?_
        iterate 2 refine cond_yes (beq_self_eq_true _) ?_
        refine call_fn (c106 _) ?_
        rintro _ w45 ⟨rfl, hk⟩
        replace H := H.same hk
        clear hk
        refine cond_yes (beq_self_eq_true _) ?_
        exact ⟨rfl, H.keeps⟩
      · refine cond_no (beq_eq_false_iff_ne.2 (by assumption)) ?_
        iterate 2 refine cond_no (beq_eq_false_iff_ne.2 (by assumption)) ?_
        iterate 6 refine cond_no rfl ?_
        refine ⟨congrArg Value.bool ?_, H.keeps⟩
        exact absurd (e2.trans hb.symm) h33
    · refine cond_no (beq_eq_false_iff_ne.2 (by assumption)) ?_
      iterate 6 refine cond_no (beq_eq_false_iff_ne.2 (by assumption)) ?_
      iterate 10 refine cond_no rfl ?_
      refine ⟨congrArg Value.bool ?_, H.keeps⟩
      exact absurd (e1.trans hb.symm) h19
theorem law23 (v : Value) (r : Nat) (hr : r < 2 ^ 256) (s : Nat) (hs : s < 2 ^ 256) (t : Nat) (ht : t < 2 ^ 256) (w : World) {ks : List Int} (hk : IntsAt w v ks) : Fun Try.prog 23 [v, sv r, sv s, sv t] w fun v w' => v = .bool true ∧ Same w w' := by
  obtain ⟨B, c, rfl, hl, _, hS⟩ := hk
  exact law23_m ks B c r s t hr hs ht w hl hS
end Go.Proofs.Ytjebpngdinbckaa
end

section
/- Law 27: points turned. -/
namespace Go.Proofs.Ytjebpngdinbckaa
open Go.Dk
attribute [local irreducible] IntKind.wrap

theorem flip_up {p i : Nat} (h : p.testBit i = false) : p + 2 ^ i = p ^^^ 2 ^ i := by
  rw [add_pow_or h]
  refine Nat.eq_of_testBit_eq fun j => ?_
  rw [Nat.testBit_or, Nat.testBit_xor, Nat.testBit_two_pow]
  by_cases hj : i = j
  · subst hj; rw [h]; simp
  · simp [hj]
theorem flip_bit (p i : Nat) : (p ^^^ 2 ^ i).testBit i = !p.testBit i := by
  rw [Nat.testBit_xor, Nat.testBit_two_pow]; simp
theorem flip_flip (p i : Nat) : p ^^^ 2 ^ i ^^^ 2 ^ i = p := by rw [Nat.xor_assoc, Nat.xor_self, Nat.xor_zero]
theorem flip_down {p i : Nat} (h : p.testBit i = true) : 2 ^ i ≤ p ∧ p - 2 ^ i = p ^^^ 2 ^ i := by
  have h1 : (p ^^^ 2 ^ i).testBit i = false := by rw [flip_bit, h]; rfl
  have h2 := flip_up h1
  rw [flip_flip] at h2
  omega
theorem flip_lt {p i n : Nat} (hp : p < 2 ^ n) (hi : i < n) : p ^^^ 2 ^ i < 2 ^ n := Nat.xor_lt_two_pow hp (Nat.pow_lt_pow_right (by decide) hi)
def wantL (l : List Nat) (i : Nat) : List Bool := (List.range 256).map fun p => l.any fun x => x == p || (x ^^^ 2 ^ i) == p
theorem wantL_length (l : List Nat) (i : Nat) : (wantL l i).length = 256 := by simp [wantL]
theorem wantL_nil (i : Nat) : wantL [] i = List.replicate 256 false := List.eq_replicate_iff.2 ⟨wantL_length _ _, fun b hb => by
  obtain ⟨p, _, rfl⟩ := List.mem_map.1 hb; rfl⟩
theorem wantL_snoc (l : List Nat) (i x : Nat) : ((wantL l i).set x true).set (x ^^^ 2 ^ i) true = wantL (l ++ [x]) i := by
  refine List.ext_getElem? fun p => ?_
  by_cases hp : p < 256
  · have e : ∀ l : List Nat, (wantL l i)[p]? = some (l.any fun x => x == p || (x ^^^ 2 ^ i) == p) := fun l => by
      unfold wantL
      rw [List.getElem?_map, List.getElem?_range hp]; rfl
    rw [List.getElem?_set, List.getElem?_set, e, e, List.any_append]
    simp only [List.length_set, wantL_length, List.any_cons, List.any_nil, Bool.or_false]
    by_cases h1 : x ^^^ 2 ^ i = p
    · subst h1; simp [hp]
    · by_cases h2 : x = p
      · subst h2; simp [h1, hp]
      · simp [h1, h2]
  · rw [List.getElem?_eq_none (by rw [List.length_set, List.length_set, wantL_length]; omega), List.getElem?_eq_none (by rw [wantL_length]; omega)]
/-- A set, and its points turned at an input. -/
def someN (r i : Nat) : Nat := setOf fun p => r.testBit p || r.testBit (p ^^^ 2 ^ i)
theorem someN_want {r i n : Nat} (hr : r < 2 ^ 256) (hw : ∀ p, r.testBit p = true → p < 2 ^ n) (hi : i < n) (hn : n ≤ 8) : ofFlags (wantL (pts r) i) = someN r i := by
  unfold ofFlags someN
  refine set_ext (setOf_lt _) (setOf_lt _) fun p hp => ?_
  rw [testBit_setOf, testBit_setOf]
  congr 1
  unfold wantL
  rw [List.getD_eq_getElem?_getD, List.getElem?_map, List.getElem?_range hp]
  simp only [Option.map_some, Option.getD_some]
  have h256 := pow_le_256 hn
  have hm : ∀ x, x ∈ pts r ↔ r.testBit x = true := fun x => by
    rw [mem_bitsBelow]
    exact ⟨fun h => h.2, fun h => ⟨by have := hw x h; omega, h⟩⟩
  rw [Bool.eq_iff_iff, List.any_eq_true, Bool.or_eq_true]
  constructor
  · rintro ⟨x, hx, h⟩
    rw [Bool.or_eq_true, beq_iff_eq, beq_iff_eq] at h
    rcases h with rfl | rfl
    · exact .inl ((hm x).1 hx)
    · exact .inr (by rw [flip_flip]; exact (hm x).1 hx)
  · rintro (h | h)
    · exact ⟨p, (hm p).2 h, by simp⟩
    · exact ⟨p ^^^ 2 ^ i, (hm _).2 h, by rw [flip_flip]; simp⟩
theorem pt_flip {o : List Nat} (ho : OrdO o) {p i : Nat} (hp : p < 2 ^ o.length) (hi : i < o.length) : ptA o (upA (asgP o p) (o.idxOf i) (!asgP o p (o.idxOf i))) = p ^^^ 2 ^ i := by
  have hb : ∀ j, j < o.length → asgP o p (o.idxOf j) = p.testBit j := fun j hj => by
    unfold asgP
    rw [decide_eq_true (ho.idx_lt hj), Bool.true_and, ho.get_idx hj]
  refine Nat.eq_of_testBit_eq fun j => ?_
  rcases Nat.lt_or_ge j o.length with hj | hj
  · rw [testBit_ptA _ hj, Nat.testBit_xor, Nat.testBit_two_pow]
    by_cases hij : i = j
    · subst hij
      rw [upA_same, hb i hi]; simp
    · have hne : o.idxOf j ≠ o.idxOf i := fun h => hij (by have h1 := ho.get_idx hi; have h2 := ho.get_idx hj; rw [h] at h2; omega)
      rw [upA_ne _ _ hne, hb j hj]; simp [hij]
  · rw [Nat.testBit_lt_two_pow (Nat.lt_of_lt_of_le (ptA_lt _ _) (Nat.pow_le_pow_right (by decide) hj)), Nat.testBit_lt_two_pow (Nat.lt_of_lt_of_le (flip_lt hp hi) (Nat.pow_le_pow_right (by decide) hj))]
theorem some_set {o : List Nat} (ho : OrdO o) {A : Ar} {x : Int} {r i : Nat} (hr : r < 2 ^ 256) (hrz : lessN r (allN o.length) = 0) (hi : i < o.length)
    (h : Rep A x fun a => FnS o r a || FnS o r (upA a (o.idxOf i) (!a (o.idxOf i)))) : setD o A x = someN r i := by
  have hw := less_all hr hrz
  have h256 := pow_le_256 ho.le
  refine setD_rep ho h (setOf_lt _) (fun p hp => ?_) (fun p hp => ?_)
  · unfold someN at hp
    rw [testBit_setOf, Bool.and_eq_true, Bool.or_eq_true] at hp
    rcases hp.2 with h | h
    · exact hw p h
    · have := flip_lt (hw _ h) hi
      rwa [flip_flip] at this
  · unfold someN
    rw [testBit_setOf, decide_eq_true (by omega), Bool.true_and, FnS_asg ho r hp]
    unfold FnS
    rw [pt_flip ho hp hi]
theorem ite_set {o : List Nat} (ho : OrdO o) {A : Ar} {x : Int} {r s t : Nat} (hr : r < 2 ^ 256) (ht : t < 2 ^ 256) (hrz : lessN r (allN o.length) = 0) (htz : lessN t (allN o.length) = 0)
    (h : Rep A x fun a => if FnS o r a then FnS o s a else FnS o t a) : setD o A x = r &&& s ||| lessN t r := by
  refine setD_rep ho h (Nat.or_lt_two_pow (Nat.lt_of_le_of_lt Nat.and_le_left hr) (setOf_lt _)) (fun p hp => ?_) (fun p hp => ?_)
  · rw [Nat.testBit_or, Nat.testBit_and, testBit_lessN ht, Bool.or_eq_true, Bool.and_eq_true, Bool.and_eq_true] at hp
    rcases hp with h | h
    · exact less_all hr hrz p h.1
    · exact less_all ht htz p h.1
  · rw [FnS_asg ho r hp, FnS_asg ho s hp, FnS_asg ho t hp, Nat.testBit_or, Nat.testBit_and, testBit_lessN ht]
    cases r.testBit p <;> simp
theorem or_set {o : List Nat} (ho : OrdO o) {A : Ar} {x : Int} {r s : Nat} (hr : r < 2 ^ 256) (hs : s < 2 ^ 256) (hrz : lessN r (allN o.length) = 0) (hsz : lessN s (allN o.length) = 0)
    (h : Rep A x fun a => FnS o r a || FnS o s a) : setD o A x = r ||| s := by
  refine setD_rep ho h (Nat.or_lt_two_pow hr hs) (fun p hp => ?_) (fun p hp => ?_)
  · rw [Nat.testBit_or, Bool.or_eq_true] at hp
    rcases hp with h | h
    · exact less_all hr hrz p h
    · exact less_all hs hsz p h
  · rw [FnS_asg ho r hp, FnS_asg ho s hp, Nat.testBit_or]
theorem not_set {o : List Nat} (ho : OrdO o) {A : Ar} {x : Int} {r : Nat} (h : Rep A x fun a => !FnS o r a) : setD o A x = lessN (allN o.length) r := by
  refine setD_rep ho h (setOf_lt _) (fun p hp => ?_) (fun p hp => ?_)
  · rw [testBit_lessN (allN_lt _), Bool.and_eq_true] at hp
    have := hp.1
    unfold allN at this
    rw [testBit_setOf, Bool.and_eq_true, decide_eq_true_eq, decide_eq_true_eq] at this
    exact this.2
  · have := pow_le_256 ho.le
    rw [FnS_asg ho r hp, testBit_lessN (allN_lt _)]
    unfold allN
    rw [testBit_setOf, decide_eq_true (by omega), decide_eq_true hp]; rfl
end Go.Proofs.Ytjebpngdinbckaa
end

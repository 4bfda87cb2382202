import Derived.Test.YtjebpngdinbckaaPart8
/- Lemmas, part 9: what the proof of the row uses. -/
section
/- Graphs: orders turned into others by swaps, plain. -/
namespace Go.Proofs.Ytjebpngdinbckaa
open Go.Dk

/-- How many of the first m are told. -/
def rowP (f : Nat → Bool) : Nat → Nat
  | 0 => 0
  | m + 1 => rowP f m + (if f m then 1 else 0)
/-- How many pairs of the first m are told. -/
def pairP (f : Nat → Nat → Bool) : Nat → Nat
  | 0 => 0
  | m + 1 => pairP f m + rowP (f m) m
theorem row_congr {f g : Nat → Bool} : ∀ {m : Nat}, (∀ k, k < m → f k = g k) → rowP f m = rowP g m
  | 0, _ => rfl
  | m + 1, h => by rw [rowP, rowP, row_congr fun k hk => h k (by omega), h m (by omega)]
theorem row_drop {f g : Nat → Bool} {k0 : Nat} (h0 : f k0 = true) (h1 : g k0 = false) : ∀ {m : Nat}, k0 < m → (∀ k, k < m → k ≠ k0 → f k = g k) → rowP f m = rowP g m + 1
  | 0, h, _ => absurd h (Nat.not_lt_zero _)
  | m + 1, h, e => by
    rw [rowP, rowP]
    by_cases hm : k0 = m
    · subst hm
      rw [row_congr (f := f) (g := g) fun k hk => e k (by omega) (by omega), h0, h1]
      rfl
    · rw [row_drop h0 h1 (m := m) (by omega) fun k hk hne => e k (by omega) hne, e m (by omega) (Ne.symm hm)]
      omega
theorem row_le (f : Nat → Bool) : ∀ m : Nat, rowP f m ≤ m
  | 0 => Nat.le_refl _
  | m + 1 => by
    have := row_le f m
    rw [rowP]
    split <;> omega
theorem pair_congr {f g : Nat → Nat → Bool} : ∀ {m : Nat}, (∀ i k, i < m → k < i → f i k = g i k) → pairP f m = pairP g m
  | 0, _ => rfl
  | m + 1, h => by rw [pairP, pairP, pair_congr fun i k hi hk => h i k (by omega) hk, row_congr fun k hk => h m k (by omega) hk]
theorem pair_drop {f g : Nat → Nat → Bool} {i0 k0 : Nat} (hk : k0 < i0) (h0 : f i0 k0 = true) (h1 : g i0 k0 = false) : ∀ {m : Nat}, i0 < m → (∀ i k, i < m → k < i → ¬ (i = i0 ∧ k = k0) → f i k = g i k) → pairP f m = pairP g m + 1
  | 0, h, _ => absurd h (Nat.not_lt_zero _)
  | m + 1, h, e => by
    rw [pairP, pairP]
    by_cases hm : i0 = m
    · subst hm
      rw [pair_congr (f := f) (g := g) fun i k hi hk => e i k (by omega) hk (by omega), row_drop h0 h1 hk fun k hk hne => e _ k (by omega) hk (by omega)]
      omega
    · rw [pair_drop hk h0 h1 (m := m) (by omega) fun i k hi hk hne => e i k (by omega) hk hne, row_congr fun k hk => e m k (by omega) hk (by omega)]
      omega
theorem pair_zero {f : Nat → Nat → Bool} : ∀ {m : Nat}, (∀ i k, i < m → k < i → f i k = false) → pairP f m = 0
  | 0, _ => rfl
  | m + 1, h => by
    rw [pairP, pair_zero fun i k hi hk => h i k (by omega) hk, row_congr (g := fun _ => false) fun k hk => h m k (by omega) hk]
    have : ∀ m, rowP (fun _ => false) m = 0 := fun m => by
      induction m with
      | zero => rfl
      | succ m ih => rw [rowP, ih]; rfl
    rw [this]
theorem pair_le (f : Nat → Nat → Bool) : ∀ m : Nat, pairP f m ≤ m * m
  | 0 => Nat.le_refl _
  | m + 1 => by
    have h1 := pair_le f m
    have h2 := row_le (f m) m
    rw [pairP, Nat.succ_mul, Nat.mul_succ]
    omega
/-- Do two stand the other way round in two orders? -/
def invB (p q : List Nat) (i k : Nat) : Bool := decide (p.idxOf i < p.idxOf k) != decide (q.idxOf i < q.idxOf k)
theorem idx_swL {o : List Int} (h : OrdI o) {k : Nat} (hk : k + 1 < o.length) {j : Nat} (hj : j < o.length) : (natsI (swL o k)).idxOf j = sw k ((natsI o).idxOf j) := by
  have hl : (natsI (swL o k)).length = (natsI o).length := by rw [natsI_length, natsI_length, swL_length]
  have ho := h.nats
  have ho' := (swL_ord h hk).nats
  have hj : j < (natsI o).length := by rw [natsI_length]; exact hj
  have h1 := ho.idx_lt hj
  have h2 : sw k ((natsI o).idxOf j) < (natsI o).length := by rw [natsI_length] at h1 ⊢; exact sw_lt hk h1
  have h3 : (natsI (swL o k)).getD (sw k ((natsI o).idxOf j)) 0 = j := by rw [natsI_swL hk, sw_sw, ho.get_idx hj]
  have := ho'.idx_get (k := sw k ((natsI o).idxOf j)) (by omega)
  rwa [h3] at this
theorem swL_swL {o : List Int} {k : Nat} (hk : k + 1 < o.length) : swL (swL o k) k = o := by
  refine List.ext_getElem? fun j => ?_
  rw [swL_get (by rw [swL_length]; exact hk), swL_get hk, sw_sw]
theorem swF_swF (k : Nat) (F : Dk.Fn) : swF k (swF k F) = F := by
  funext a
  show F (swA k (swA k a)) = F a
  congr 1
  funext j
  show a (sw k (sw k j)) = a j
  rw [sw_sw]
theorem sw_less {k p q : Nat} (h1 : ¬ (p = k ∧ q = k + 1)) (h2 : ¬ (p = k + 1 ∧ q = k)) : sw k p < sw k q ↔ p < q := by
  unfold sw
  split <;> split <;> (try split) <;> (try split) <;> omega
/-- The first places are the other order's. -/
def Agree (q o : List Int) (i : Nat) : Prop := ∀ j, j < i → q[j]? = o[j]?
theorem Agree.all {q o : List Int} (h : Agree q o o.length) (hl : q.length = o.length) : q = o := by
  refine List.ext_getElem? fun j => ?_
  by_cases hj : j < o.length
  · exact h j hj
  · rw [List.getElem?_eq_none (by omega), List.getElem?_eq_none (by omega)]
theorem nats_at {o : List Int} {j : Nat} (hj : j < o.length) : ∃ x, o[j]? = some x ∧ (natsI o).getD j 0 = x.toNat := ⟨_, List.getElem?_eq_getElem hj, natsI_get (List.getElem?_eq_getElem hj)⟩
/-- One swap less. -/
theorem inv_step {q o : List Int} (hq : OrdI q) (ho : OrdI o) (hl : q.length = o.length) {i a : Nat} (hag : Agree q o i) (hi : i ≤ a) (ha : a + 1 < q.length) (hx : q[a + 1]? = o[i]?) :
    Agree (swL q a) o i ∧ (swL q a)[a]? = o[i]? ∧ pairP (invB (natsI q) (natsI o)) q.length = pairP (invB (natsI (swL q a)) (natsI o)) q.length + 1 := by
  have hqn := hq.nats
  have hon := ho.nats
  have hql := natsI_length q
  have hol := natsI_length o
  have hio : i < o.length := by omega
  refine ⟨fun j hj => ?_, ?_, ?_⟩
  · rw [swL_get ha]
    have : sw a j = j := by unfold sw; rw [if_neg (by omega), if_neg (by omega)]
    rw [this]; exact hag j hj
  · rw [swL_get ha]
    have : sw a a = a + 1 := by unfold sw; rw [if_pos rfl]
    rw [this]; exact hx
  · have hgx : (natsI q).getD (a + 1) 0 = (natsI o).getD i 0 := by
      obtain ⟨x, h1, h2⟩ := nats_at (o := o) hio
      rw [h2]
      exact natsI_get (hx.trans h1)
    generalize hxd : (natsI o).getD i 0 = x at hgx
    generalize hyd : (natsI q).getD a 0 = y
    have hxl : x < q.length := by have := hon.get_lt (k := i) (by omega); omega
    have hyl : y < q.length := by have := hqn.get_lt (k := a) (by omega); omega
    have pqx : (natsI q).idxOf x = a + 1 := by rw [← hgx]; exact hqn.idx_get (by omega)
    have pqy : (natsI q).idxOf y = a := by rw [← hyd]; exact hqn.idx_get (by omega)
    have pox : (natsI o).idxOf x = i := by rw [← hxd]; exact hon.idx_get (by omega)
    have hxy : x ≠ y := fun h => by rw [h] at pqx; omega
    have poy : i < (natsI o).idxOf y := by
      have hp := hon.idx_lt (i := y) (by omega)
      have hg := hon.get_idx (i := y) (by omega)
      generalize (natsI o).idxOf y = p at hp hg
      refine Nat.lt_of_not_le fun hpi => ?_
      by_cases he : p = i
      · subst he; exact hxy (hxd.symm.trans hg)
      · have h1 := hag p (by omega)
        obtain ⟨z, h2, h3⟩ := nats_at (o := o) (j := p) (by omega)
        have h4 : (natsI q).getD p 0 = z.toNat := natsI_get (h1.trans h2)
        rw [← h3, hg] at h4
        have h5 := hqn.idx_get (k := p) (by omega)
        rw [h4] at h5
        omega
    have sx : (natsI (swL q a)).idxOf x = a := by rw [idx_swL hq ha hxl, pqx]; unfold sw; rw [if_neg (by omega), if_pos rfl]
    have sy : (natsI (swL q a)).idxOf y = a + 1 := by rw [idx_swL hq ha hyl, pqy]; unfold sw; rw [if_pos rfl]
    have other : ∀ u v, u < q.length → v < q.length → ¬ (u = x ∧ v = y) → ¬ (u = y ∧ v = x) → invB (natsI q) (natsI o) u v = invB (natsI (swL q a)) (natsI o) u v := fun u v hu hv n1 n2 => by
      unfold invB
      have gu := hqn.get_idx (i := u) (by omega)
      have gv := hqn.get_idx (i := v) (by omega)
      rw [idx_swL hq ha hu, idx_swL hq ha hv]
      congr 1
      refine decide_eq_decide.2 (sw_less ?_ ?_).symm
      · rintro ⟨h1, h2⟩
        rw [h1, hyd] at gu
        rw [h2, hgx] at gv
        exact n2 ⟨gu.symm, gv.symm⟩
      · rintro ⟨h1, h2⟩
        rw [h1, hgx] at gu
        rw [h2, hyd] at gv
        exact n1 ⟨gu.symm, gv.symm⟩
    by_cases hlt : x < y
    · refine pair_drop (i0 := y) (k0 := x) hlt ?_ ?_ hyl fun u v hu hv hne => other u v hu (by omega) (by omega) (by omega)
      · unfold invB
        rw [pqx, pqy, pox, decide_eq_true (by omega : a < a + 1), decide_eq_false (by omega)]; rfl
      · unfold invB
        rw [sx, sy, pox, decide_eq_false (by omega : ¬ a + 1 < a), decide_eq_false (by omega)]; rfl
    · refine pair_drop (i0 := x) (k0 := y) (by omega) ?_ ?_ hxl fun u v hu hv hne => other u v hu (by omega) (by omega) (by omega)
      · unfold invB
        rw [pqx, pqy, pox, decide_eq_false (by omega : ¬ a + 1 < a), decide_eq_true (by omega)]; rfl
      · unfold invB
        rw [sx, sy, pox, decide_eq_true (by omega : a < a + 1), decide_eq_true (by omega)]; rfl
theorem inv_none (o : List Nat) (m : Nat) : pairP (invB o o) m = 0 := pair_zero fun i k _ _ => by unfold invB; exact bne_self_eq_false _
/-- What a graph that is right says, as the set that is read. -/
theorem sem_right {o : List Int} {N : List I3} {r : Int} {P : List Nd} (h : RightG o N r P) : sem (arN P) r = FnS (natsI o) (setD (natsI o) (arN P) r) := by
  funext a
  have ho := h.ord.nats
  have hlt := ptA_lt (natsI o) a
  have h8 : (natsI o).length ≤ 8 := ho.le
  have h256 := Nat.pow_le_pow_right (show 0 < 2 by decide) h8
  unfold FnS setD
  rw [testBit_setOf, decide_eq_true hlt, decide_eq_true (show ptA (natsI o) a < 256 by omega), Bool.true_and, Bool.true_and]
  refine (sem_low h.inv r _ _ fun j hj => ?_).symm
  exact asg_pt ho a (by rw [natsI_length]; exact hj)
theorem few_nodes {o : List Int} (hord : OrdI o) {s : Nat} {N : List Nd} {r : Int} (hgr : IsGraph (FnS (natsI o) s) N r) : N.length ≤ 1000 := by
  have ho8 := hord.le
  have hF := FnS_low' hord s
  have hm := graph_made (by omega) hF hgr
  have hf := made_few hm (low_hangs hF)
  rw [arN_live, List.length_range] at hf
  have h256 := pow_le_256 ho8
  have : liveA ([] : Ar) = 0 := rfl
  omega
end Go.Proofs.Ytjebpngdinbckaa
end

section
/- More arguments of laws, opened: graphs. -/
namespace Go.Proofs.Ytjebpngdinbckaa
open Go.Dk Go.ChangeShapes Go.WideShapes Go.ChangeAt Go.RowKit
/-- Nodes, as they are handed in. -/
def NodesAt (w : World) (v : Value) (N : List I3) : Prop := ∃ B c, v = .slice B N.length c ∧ N.length ≤ 9223372036854775807 ∧ Sl w (.slice B N.length c) 3 N.length (flat encI N)
section
variable {H : Type} {enc : TypeId × Value → H} {w : World} {base b : Nat} {spare : Nat → Bool} {held : Bool}
set_option maxRecDepth 100000 in
theorem cells230 : Try.prog.cellsOf 230 = 3 := by kernel_rfl
theorem cells146 : Try.prog.cellsOf 146 = 1 := by kernel_rfl
theorem cells148 : Try.prog.cellsOf 148 = 3 := by kernel_rfl
set_option maxRecDepth 100000 in
theorem node_at {fuel : Nat} {r : List Value} {x : DataW H × List MemPlace} (h : DataW.trod enc Try.prog w base spare held fuel 230 r = some x) : ∃ e : I3, True ∧ r = encI e := by
  obtain ⟨xs, n, _, _, hl, hlen, hf⟩ := DataW.trod_struct Try.underlying230 h
  rw [cells230] at hl
  have f0 : DataW.trod enc Try.prog w base spare held n 3 ((r.drop 0).take (Try.prog.cellsOf 3)) = xs[0]? := hf 0 _ rfl
  rw [cells3] at f0
  have f1 : DataW.trod enc Try.prog w base spare held n 3 ((r.drop 1).take (Try.prog.cellsOf 3)) = xs[1]? := hf 1 _ rfl
  rw [cells3] at f1
  have f2 : DataW.trod enc Try.prog w base spare held n 3 ((r.drop 2).take (Try.prog.cellsOf 3)) = xs[2]? := hf 2 _ rfl
  rw [cells3] at f2
  match r, hl, xs, hlen, f0, f1, f2 with
  | [c0, c1, c2], _, [y0, y1, y2], _, f0, f1, f2 =>
    obtain ⟨n0, k0, e0⟩ := int_at f0
    obtain ⟨n1, k1, e1⟩ := int_at f1
    obtain ⟨n2, k2, e2⟩ := int_at f2
    simp at e0 e1 e2
    subst e0; subst e1; subst e2
    exact ⟨(n0, n1, n2), trivial, rfl⟩
set_option maxRecDepth 100000 in
theorem nodes_at {fuel : Nat} {v : Value} {x : DataW H × List MemPlace} (h : DataW.trod enc Try.prog w base spare held fuel 146 [v] = some x) : ∃ N, NodesAt w v N := by
  obtain ⟨A, c, l, hv, hl, _, hs⟩ := arg_list Try.underlying146 cells230 (by decide) encI (fun _ => True) encI_length (fun fuel r y hy => node_at hy) h
  exact ⟨l, A, c, hv, hl, hs⟩
set_option maxRecDepth 100000 in
theorem arg_graph {v : Value} {d : DataW H} {ps : List MemPlace} (hval : Value.okWide Try.prog w .any b 148 v) (h : DataW.Trod enc Try.prog w base spare held 148 v d ps) : ∃ vo vn r o N, okI r ∧ IntsAt w vo o ∧ NodesAt w vn N ∧ v = grV vo vn r := by
  unfold Value.okWide at hval
  rw [Try.underlying148] at hval
  obtain ⟨cs, rfl, hsz, _⟩ := hval
  obtain ⟨fuel, hf⟩ := h
  obtain ⟨xs, n, _, _, hl, hlen, hx⟩ := DataW.trod_struct Try.underlying148 hf
  rw [cells148] at hl
  obtain ⟨l, rfl⟩ : ∃ l : List Value, cs = l.toArray := ⟨cs.toList, by simp⟩
  have hl' : l.length = 3 := hl
  have f0 : DataW.trod enc Try.prog w base spare held n 32 ((l.drop 0).take (Try.prog.cellsOf 32)) = xs[0]? := hx 0 _ rfl
  rw [cells32] at f0
  have f1 : DataW.trod enc Try.prog w base spare held n 146 ((l.drop 1).take (Try.prog.cellsOf 146)) = xs[1]? := hx 1 _ rfl
  rw [cells146] at f1
  have f2 : DataW.trod enc Try.prog w base spare held n 3 ((l.drop 2).take (Try.prog.cellsOf 3)) = xs[2]? := hx 2 _ rfl
  rw [cells3] at f2
  match l, hl', xs, hlen, f0, f1, f2 with
  | [c0, c1, c2], _, [y0, y1, y2], _, f0, f1, f2 =>
    obtain ⟨o, ho⟩ := ints_at f0
    obtain ⟨N, hN⟩ := nodes_at f1
    obtain ⟨m, hm, he⟩ := int_at f2
    have he' : [c2] = [Value.int .i64 m] := he
    injection he' with he' _
    subst he'
    exact ⟨c0, c1, m, o, N, hm, ho, hN, rfl⟩
end
end Go.Proofs.Ytjebpngdinbckaa
end

section
/- Graphs: SwapSteps. -/
namespace Go.Proofs.Ytjebpngdinbckaa
open Go.Dk
attribute [local irreducible] IntKind.wrap

theorem ent28 : enters Try.prog 28 = true := by kernel_rfl
theorem law28_m (o : List Int) (N : List I3) (Bo A : Option Addr) (co c : Nat) (r k : Int) (w : World) (hS : Sl w (.slice Bo o.length co) 1 o.length (intsI o)) (hA : Sl w (.slice A N.length c) 3 N.length (flat encI N)) :
    Fun Try.prog 28 [grV (.slice Bo o.length co) (.slice A N.length c) r, .int .i64 k] w fun v w' => v = .bool true ∧ Same w w' := by
  refine fun_of_W (N := 82) Try.func28 ent28 rfl rfl rfl (by simp) ?_
  have H := Hp.start0 w
  refine cut_rule (γ := Nat) _ rfl (fun g2 => [(2, .pointer (some ⟨g2, 0, none⟩)), (4, .bool false)]) (fun g2 w' => Hp w (fun _ => False) w' [blk g2 148 (grC (.slice Bo o.length co) (.slice A N.length c) r)] []) ?_ ?_
  · refine H.box 148 _ (cs := grC (.slice Bo o.length co) (.slice A N.length c) r) rfl ?_
    clear H
    intro g1 w1 H
    exact ⟨g1, ⟨rfl, rfl, trivial⟩, H⟩
  clear H
  rintro g2 u w1 H
  replace H : Hp _ _ _ _ _ := H
  refine cut_rule (γ := Unit) _ rfl (fun _ => []) (fun _ w' => (o.length ≤ 20 ∧ N.length ≤ 60) ∧ Hp w (fun _ => False) w' [blk g2 148 (grC (.slice Bo o.length co) (.slice A N.length c) r)] []) ?_ ?_
  · refine H.loadAll 0 rfl agg148 size148 ?_
    refine call_fn (c130 Bo A o.length co N.length c r _) ?_
    rintro _ w2 ⟨rfl, hk⟩
    replace H := H.same hk
    clear hk
    refine cond_dec (fun h => ?_) (fun h => ?_)
    · refine call_fn (c131 _) ?_
      rintro _ w3 ⟨rfl, hk⟩
      replace H := H.same hk
      clear hk
      exact ⟨rfl, H.keeps⟩
    · exact ⟨(), trivial, by omega, H⟩
  clear H
  rintro ⟨⟩ u w2 ⟨⟨h20, h60⟩, H⟩
  replace H : Hp _ _ _ _ _ := H
  have hw2 : IntKind.i64.wrap ((o.length : Int) - 2) = (o.length : Int) - 2 := wrap_i64_in (by omega) (by omega)
  by_cases hR : (∃ P, RightG o N r P) ∧ 0 ≤ k ∧ k + 1 < o.length
  · obtain ⟨⟨P, hP⟩, h0, h1⟩ := hR
    have hex : ∃ P, RightG o N r P := ⟨P, hP⟩
    obtain ⟨j, rfl⟩ := Int.eq_ofNat_of_zero_le h0
    have hj : j + 1 < o.length := by omega
    have hord := hP.ord
    have hord' := swL_ord hord hj
    have hol' := swL_length o j
    have hPl : P.length = N.length := by have := congrArg List.length hP.nds; rwa [List.length_map] at this
    have hlv : ∀ (i : Nat) (d : Nd), P[i]? = some d → d.l < o.length := fun i d hd => hP.inv.lt i d (by rw [slot_arN]; exact hd)
    have hr0 := hP.root0
    have hr1 := hP.root1
    have hs := says_eq hP
    generalize hsd : setD (natsI o) (arN P) r = s at hs
    have hs256 : s < 2 ^ 256 := by rw [← hsd]; exact setOf_lt _
    have hsem := sem_right hP
    rw [hsd] at hsem
    refine cut_rule (γ := Nat × Option Addr × Nat × Option Addr × Nat × List Nd × Int) _ rfl (fun (g5, _) => [(5, .pointer (some ⟨g5, 0, none⟩)), (6, .int .i64 0)]) (fun (g5, B1, c1, A1, c2, N1, r1) w' => IsGraph (FnS (natsI (swL o j)) s) N1 r1 ∧ Hp w (fun _ => False) w' [blk g5 148 (grC (.slice B1 o.length c1) (.slice A1 N1.length c2) r1), own 3 1 (.slice B1 o.length c1) o.length (intsI (swL o j)), own 230 3 (.slice A1 N1.length c2) N1.length (flat encI (ndI N1)), blk g2 148 (grC (.slice Bo o.length co) (.slice A N.length c) r)] []) ?_ ?_
    · refine H.loadAll 0 rfl agg148 size148 ?_
      refine call_fn (c132 o N Bo A co c r (j : Int) (by omega) (by omega) w2 (hS.same H.keeps) (hA.same H.keeps)) ?_
      rintro _ w3 (⟨h, _⟩ | ⟨P2, j2, hP2, hj2, _, vo, vn, N1, r1, rfl, hgr, hn⟩)
      · exact absurd ⟨hex, h0, h1⟩ h
      · obtain rfl : P2 = P := ndI_inj (hP2.nds.trans hP.nds.symm)
        obtain rfl : j2 = j := by omega
        rw [hsem, FnS_swL hord hj] at hgr
        replace H := (H.addNew hn).split
        obtain ⟨B1, c1, rfl, _⟩ := own_form (H.get 0 rfl)
        obtain ⟨A1, c2, rfl, _⟩ := own_form (H.get 1 rfl)
        rw [hol'] at H
        refine Hp.alloc H 148 (cs := grC (.slice none 0 0) (.slice none 0 0) 0) zero148 rfl ?_
        clear H
        intro g5 w4 H
        refine H.storeAll 0 rfl size148 rfl (by rw [hol']; exact grC_one _ _ _ _ _ _ _) ?_
        clear H
        intro w5 H
        rw [hol'] at H
        exact ⟨(g5, B1, c1, A1, c2, N1, r1), ⟨rfl, rfl, trivial⟩, hgr, H⟩
    clear H
    rintro ⟨g5, B1, c1, A1, c2, N1, r1⟩ u w3 ⟨hgr, H⟩
    replace H : Hp _ _ _ _ _ := H
    have hN1 := few_nodes hord' hgr
    have hN13 : (ndI N1).length = N1.length := List.length_map ..
    refine cut_rule (γ := Unit) _ rfl (fun _ => []) (fun _ w' => Hp w (fun _ => False) w' [blk g5 148 (grC (.slice B1 o.length c1) (.slice A1 N1.length c2) r1), own 3 1 (.slice B1 o.length c1) o.length (intsI (swL o j)), own 230 3 (.slice A1 N1.length c2) N1.length (flat encI (ndI N1)), blk g2 148 (grC (.slice Bo o.length co) (.slice A N.length c) r)] []) ?_ ?_
    · refine H.loadAll 3 rfl agg148 size148 ?_
      refine call_fn (c134 N Bo A o.length co c r (by omega) _ (hA.same H.keeps)) ?_
      rintro _ w6 ⟨D, d, rfl, hn⟩
      replace H := H.addNew hn
      clear hn
      refine call_fn (c133 o N Bo D co d r (by omega) (by omega) w6 (hS.same H.keeps) (own_Sl (H.get 0 rfl))) ?_
      rintro _ w7 ⟨b, rfl, hb, hk⟩
      replace H := H.same hk
      clear hk
      obtain rfl := hb.2 hex
      have hk0 : ¬ (j : Int) < 0 := by omega
      have hk1 : ¬ (o.length : Int) - 2 < j := by omega
      replace H := H.forget
      iterate 5 refine cond_no rfl ?_
      refine fieldAddr_by (fa148_0 _) ?_
      refine cond_no rfl ?_
      refine H.load 3 rfl agg32 rfl ?_
      refine cond_no rfl ?_
      refine len_sl Try.underlying32 ?_
      iterate 3 refine cond_no rfl ?_
      refine cond_no (decide_eq_false (by omega)) ?_
      exact ⟨(), trivial, H⟩
    clear H
    rintro ⟨⟩ u w4 H
    replace H : Hp _ _ _ _ _ := H
    refine cut_rule (γ := Nat × Option Addr × Nat × Option Addr × Nat) _ rfl (fun (g7, _) => [(7, .pointer (some ⟨g7, 0, none⟩))]) (fun (g7, D2, d2, A2, a2) w' => Hp w (fun _ => False) w' [blk g7 155 (grC (.slice D2 o.length d2) (.slice A2 N1.length a2) r1), own 232 3 (.slice A2 N1.length a2) N1.length (flat encI (ndI N1)), own 3 1 (.slice D2 o.length d2) o.length (intsI (swL o j)), blk g5 148 (grC (.slice B1 o.length c1) (.slice A1 N1.length c2) r1), own 3 1 (.slice B1 o.length c1) o.length (intsI (swL o j)), own 230 3 (.slice A1 N1.length c2) N1.length (flat encI (ndI N1)), blk g2 148 (grC (.slice Bo o.length co) (.slice A N.length c) r)] []) ?_ ?_
    · refine draw_orders (fun u => Hp w (fun _ => False) u [blk g5 148 (grC (.slice B1 o.length c1) (.slice A1 N1.length c2) r1), own 3 1 (.slice B1 o.length c1) o.length (intsI (swL o j)), own 230 3 (.slice A1 N1.length c2) N1.length (flat encI (ndI N1)), blk g2 148 (grC (.slice Bo o.length co) (.slice A N.length c) r)] [])
        [([1, 2, 6, 7, 8, 9], [0, 3, 4, 5, 1, 2, 6, 7, 8, 9]), ([1, 2, 6, 8, 7, 9], [0, 3, 4, 5, 1, 2, 6, 8, 7, 9]), ([1, 2, 8, 6, 7, 9], [0, 3, 4, 5, 1, 2, 8, 6, 7, 9]), ([1, 8, 2, 6, 7, 9], [0, 3, 4, 5, 1, 8, 2, 6, 7, 9]), ([8, 1, 2, 6, 7, 9], [0, 3, 4, 5, 8, 1, 2, 6, 7, 9])] fol (by kernel_rfl) (H.same (Keeps.drew _)) ?_
      replace H := H.same (Keeps.drew _)
      generalize w4.drew = w5 at H
      intro x hx
      simp only [List.mem_cons, List.not_mem_nil, or_false] at hx
      rcases hx with rfl | rfl | rfl | rfl | rfl
      · refine quiet _ (fun w H => H.loadAll 3 rfl agg148 size148 ⟨rfl, rfl⟩) ?_
        refine quiet _ (fun w H => fieldAddr_by (fa148_0 _) ⟨rfl, rfl⟩) ?_
        refine quiet _ (fun w H => H.load 3 rfl agg32 rfl ⟨rfl, rfl⟩) ?_
        refine call_fn (c134 N Bo A o.length co c r (by omega) _ (hA.same H.keeps)) ?_
        rintro _ w6 ⟨D, d, rfl, hn⟩
        replace H := H.addNew hn
        clear hn
        refine ⟨.inl H.forget, ?_⟩
        have hc := c137 hord hP.nds hP.topo hlv (by omega) Bo D co d r.toNat (by omega) _ (hS.same H.keeps) (own_Sl (H.get 0 rfl))
        rw [show ((r.toNat : Nat) : Int) = r by omega, hs] at hc
        refine call_fn hc ?_
        clear hc
        rintro _ w7 ⟨rfl, hk⟩
        replace H := H.same hk
        clear hk
        refine ⟨.inl H.forget, ?_⟩
        refine call_fn (c138 o Bo co j hj (by omega) _ (hS.same H.keeps)) ?_
        rintro _ w8 ⟨D2, d2, rfl, hn⟩
        replace H := H.addNew hn
        clear hn
        refine ⟨.inl H.forget.forget, ?_⟩
        have hc := c136 hord' s hs256 D2 d2 _ (by rw [hol']; exact own_Sl (H.get 0 rfl))
        rw [hol'] at hc
        refine call_fn hc ?_
        clear hc
        rintro _ w9 ⟨A2, a2, N2, r2, rfl, hgr2, hn⟩
        obtain ⟨e1, e2⟩ := graph_det (by omega) (FnS_low' hord' s) hgr hgr2
        subst e1; subst e2
        replace H := H.addNew hn
        clear hn
        refine ⟨.inl H.forget.forget.forget, ?_⟩
        refine H.alloc 155 (cs := grC (.slice none 0 0) (.slice none 0 0) 0) zero155 rfl ?_
        clear H
        intro g7 w10 H
        refine ⟨.inl H.forget.forget.forget.forget, ?_⟩
        refine H.storeAll 0 rfl size155 rfl (grC_one _ _ _ _ _ _ _) ?_
        clear H
        intro w11 H
        refine ⟨.inl H.forget.forget.forget.forget, ?_⟩
        have H : Hp w (fun _ => False) w11 [blk g7 155 (grC (.slice D2 o.length d2) (.slice A2 N1.length a2) r1), own 232 3 (.slice A2 N1.length a2) N1.length (flat encI (ndI N1)), own 3 1 (.slice D2 o.length d2) o.length (intsI (swL o j)), blk g5 148 (grC (.slice B1 o.length c1) (.slice A1 N1.length c2) r1), own 3 1 (.slice B1 o.length c1) o.length (intsI (swL o j)), own 230 3 (.slice A1 N1.length c2) N1.length (flat encI (ndI N1)), blk g2 148 (grC (.slice Bo o.length co) (.slice A N.length c) r)] [] := H.sel [0, 1, 2, 4, 5, 6, 7] (by decide) rfl
        exact ⟨(g7, D2, d2, A2, a2), ⟨rfl, trivial⟩, H⟩
      · refine quiet _ (fun w H => H.loadAll 3 rfl agg148 size148 ⟨rfl, rfl⟩) ?_
        refine quiet _ (fun w H => fieldAddr_by (fa148_0 _) ⟨rfl, rfl⟩) ?_
        refine quiet _ (fun w H => H.load 3 rfl agg32 rfl ⟨rfl, rfl⟩) ?_
        refine call_fn (c134 N Bo A o.length co c r (by omega) _ (hA.same H.keeps)) ?_
        rintro _ w6 ⟨D, d, rfl, hn⟩
        replace H := H.addNew hn
        clear hn
        refine ⟨.inl H.forget, ?_⟩
        have hc := c137 hord hP.nds hP.topo hlv (by omega) Bo D co d r.toNat (by omega) _ (hS.same H.keeps) (own_Sl (H.get 0 rfl))
        rw [show ((r.toNat : Nat) : Int) = r by omega, hs] at hc
        refine call_fn hc ?_
        clear hc
        rintro _ w7 ⟨rfl, hk⟩
        replace H := H.same hk
        clear hk
        refine ⟨.inl H.forget, ?_⟩
        refine call_fn (c138 o Bo co j hj (by omega) _ (hS.same H.keeps)) ?_
        rintro _ w8 ⟨D2, d2, rfl, hn⟩
        replace H := H.addNew hn
        clear hn
        refine ⟨.inl H.forget.forget, ?_⟩
        refine H.alloc 155 (cs := grC (.slice none 0 0) (.slice none 0 0) 0) zero155 rfl ?_
        clear H
        intro g7 w9 H
        refine ⟨.inl H.forget.forget.forget, ?_⟩
        have hc := c136 hord' s hs256 D2 d2 _ (by rw [hol']; exact own_Sl (H.get 1 rfl))
        rw [hol'] at hc
        refine call_fn hc ?_
        clear hc
        rintro _ w10 ⟨A2, a2, N2, r2, rfl, hgr2, hn⟩
        obtain ⟨e1, e2⟩ := graph_det (by omega) (FnS_low' hord' s) hgr hgr2
        subst e1; subst e2
        replace H := H.addNew hn
        clear hn
        refine ⟨.inl H.forget.forget.forget.forget, ?_⟩
        refine H.storeAll 1 rfl size155 rfl (grC_one _ _ _ _ _ _ _) ?_
        clear H
        intro w11 H
        refine ⟨.inl H.forget.forget.forget.forget, ?_⟩
        have H : Hp w (fun _ => False) w11 [blk g7 155 (grC (.slice D2 o.length d2) (.slice A2 N1.length a2) r1), own 232 3 (.slice A2 N1.length a2) N1.length (flat encI (ndI N1)), own 3 1 (.slice D2 o.length d2) o.length (intsI (swL o j)), blk g5 148 (grC (.slice B1 o.length c1) (.slice A1 N1.length c2) r1), own 3 1 (.slice B1 o.length c1) o.length (intsI (swL o j)), own 230 3 (.slice A1 N1.length c2) N1.length (flat encI (ndI N1)), blk g2 148 (grC (.slice Bo o.length co) (.slice A N.length c) r)] [] := H.sel [1, 0, 2, 4, 5, 6, 7] (by decide) rfl
        exact ⟨(g7, D2, d2, A2, a2), ⟨rfl, trivial⟩, H⟩
      · refine quiet _ (fun w H => H.loadAll 3 rfl agg148 size148 ⟨rfl, rfl⟩) ?_
        refine quiet _ (fun w H => fieldAddr_by (fa148_0 _) ⟨rfl, rfl⟩) ?_
        refine quiet _ (fun w H => H.load 3 rfl agg32 rfl ⟨rfl, rfl⟩) ?_
        refine call_fn (c134 N Bo A o.length co c r (by omega) _ (hA.same H.keeps)) ?_
        rintro _ w6 ⟨D, d, rfl, hn⟩
        replace H := H.addNew hn
        clear hn
        refine ⟨.inl H.forget, ?_⟩
        have hc := c137 hord hP.nds hP.topo hlv (by omega) Bo D co d r.toNat (by omega) _ (hS.same H.keeps) (own_Sl (H.get 0 rfl))
        rw [show ((r.toNat : Nat) : Int) = r by omega, hs] at hc
        refine call_fn hc ?_
        clear hc
        rintro _ w7 ⟨rfl, hk⟩
        replace H := H.same hk
        clear hk
        refine ⟨.inl H.forget, ?_⟩
        refine H.alloc 155 (cs := grC (.slice none 0 0) (.slice none 0 0) 0) zero155 rfl ?_
        clear H
        intro g7 w8 H
        refine ⟨.inl H.forget.forget, ?_⟩
        refine call_fn (c138 o Bo co j hj (by omega) _ (hS.same H.keeps)) ?_
        rintro _ w9 ⟨D2, d2, rfl, hn⟩
        replace H := H.addNew hn
        clear hn
        refine ⟨.inl H.forget.forget.forget, ?_⟩
        have hc := c136 hord' s hs256 D2 d2 _ (by rw [hol']; exact own_Sl (H.get 0 rfl))
        rw [hol'] at hc
        refine call_fn hc ?_
        clear hc
        rintro _ w10 ⟨A2, a2, N2, r2, rfl, hgr2, hn⟩
        obtain ⟨e1, e2⟩ := graph_det (by omega) (FnS_low' hord' s) hgr hgr2
        subst e1; subst e2
        replace H := H.addNew hn
        clear hn
        refine ⟨.inl H.forget.forget.forget.forget, ?_⟩
        refine H.storeAll 2 rfl size155 rfl (grC_one _ _ _ _ _ _ _) ?_
        clear H
        intro w11 H
        refine ⟨.inl H.forget.forget.forget.forget, ?_⟩
        have H : Hp w (fun _ => False) w11 [blk g7 155 (grC (.slice D2 o.length d2) (.slice A2 N1.length a2) r1), own 232 3 (.slice A2 N1.length a2) N1.length (flat encI (ndI N1)), own 3 1 (.slice D2 o.length d2) o.length (intsI (swL o j)), blk g5 148 (grC (.slice B1 o.length c1) (.slice A1 N1.length c2) r1), own 3 1 (.slice B1 o.length c1) o.length (intsI (swL o j)), own 230 3 (.slice A1 N1.length c2) N1.length (flat encI (ndI N1)), blk g2 148 (grC (.slice Bo o.length co) (.slice A N.length c) r)] [] := H.sel [2, 0, 1, 4, 5, 6, 7] (by decide) rfl
        exact ⟨(g7, D2, d2, A2, a2), ⟨rfl, trivial⟩, H⟩
      · refine quiet _ (fun w H => H.loadAll 3 rfl agg148 size148 ⟨rfl, rfl⟩) ?_
        refine quiet _ (fun w H => fieldAddr_by (fa148_0 _) ⟨rfl, rfl⟩) ?_
        refine quiet _ (fun w H => H.load 3 rfl agg32 rfl ⟨rfl, rfl⟩) ?_
        refine call_fn (c134 N Bo A o.length co c r (by omega) _ (hA.same H.keeps)) ?_
        rintro _ w6 ⟨D, d, rfl, hn⟩
        replace H := H.addNew hn
        clear hn
        refine ⟨.inl H.forget, ?_⟩
        refine H.alloc 155 (cs := grC (.slice none 0 0) (.slice none 0 0) 0) zero155 rfl ?_
        clear H
        intro g7 w7 H
        refine ⟨.inl H.forget.forget, ?_⟩
        have hc := c137 hord hP.nds hP.topo hlv (by omega) Bo D co d r.toNat (by omega) _ (hS.same H.keeps) (own_Sl (H.get 1 rfl))
        rw [show ((r.toNat : Nat) : Int) = r by omega, hs] at hc
        refine call_fn hc ?_
        clear hc
        rintro _ w8 ⟨rfl, hk⟩
        replace H := H.same hk
        clear hk
        refine ⟨.inl H.forget.forget, ?_⟩
        refine call_fn (c138 o Bo co j hj (by omega) _ (hS.same H.keeps)) ?_
        rintro _ w9 ⟨D2, d2, rfl, hn⟩
        replace H := H.addNew hn
        clear hn
        refine ⟨.inl H.forget.forget.forget, ?_⟩
        have hc := c136 hord' s hs256 D2 d2 _ (by rw [hol']; exact own_Sl (H.get 0 rfl))
        rw [hol'] at hc
        refine call_fn hc ?_
        clear hc
        rintro _ w10 ⟨A2, a2, N2, r2, rfl, hgr2, hn⟩
        obtain ⟨e1, e2⟩ := graph_det (by omega) (FnS_low' hord' s) hgr hgr2
        subst e1; subst e2
        replace H := H.addNew hn
        clear hn
        refine ⟨.inl H.forget.forget.forget.forget, ?_⟩
        refine H.storeAll 2 rfl size155 rfl (grC_one _ _ _ _ _ _ _) ?_
        clear H
        intro w11 H
        refine ⟨.inl H.forget.forget.forget.forget, ?_⟩
        have H : Hp w (fun _ => False) w11 [blk g7 155 (grC (.slice D2 o.length d2) (.slice A2 N1.length a2) r1), own 232 3 (.slice A2 N1.length a2) N1.length (flat encI (ndI N1)), own 3 1 (.slice D2 o.length d2) o.length (intsI (swL o j)), blk g5 148 (grC (.slice B1 o.length c1) (.slice A1 N1.length c2) r1), own 3 1 (.slice B1 o.length c1) o.length (intsI (swL o j)), own 230 3 (.slice A1 N1.length c2) N1.length (flat encI (ndI N1)), blk g2 148 (grC (.slice Bo o.length co) (.slice A N.length c) r)] [] := H.sel [2, 0, 1, 4, 5, 6, 7] (by decide) rfl
        exact ⟨(g7, D2, d2, A2, a2), ⟨rfl, trivial⟩, H⟩
      · refine quiet _ (fun w H => H.loadAll 3 rfl agg148 size148 ⟨rfl, rfl⟩) ?_
        refine quiet _ (fun w H => fieldAddr_by (fa148_0 _) ⟨rfl, rfl⟩) ?_
        refine quiet _ (fun w H => H.load 3 rfl agg32 rfl ⟨rfl, rfl⟩) ?_
        refine H.alloc 155 (cs := grC (.slice none 0 0) (.slice none 0 0) 0) zero155 rfl ?_
        clear H
        intro g7 w6 H
        refine ⟨.inl H.forget, ?_⟩
        refine call_fn (c134 N Bo A o.length co c r (by omega) _ (hA.same H.keeps)) ?_
        rintro _ w7 ⟨D, d, rfl, hn⟩
        replace H := H.addNew hn
        clear hn
        refine ⟨.inl H.forget.forget, ?_⟩
        have hc := c137 hord hP.nds hP.topo hlv (by omega) Bo D co d r.toNat (by omega) _ (hS.same H.keeps) (own_Sl (H.get 0 rfl))
        rw [show ((r.toNat : Nat) : Int) = r by omega, hs] at hc
        refine call_fn hc ?_
        clear hc
        rintro _ w8 ⟨rfl, hk⟩
        replace H := H.same hk
        clear hk
        refine ⟨.inl H.forget.forget, ?_⟩
        refine call_fn (c138 o Bo co j hj (by omega) _ (hS.same H.keeps)) ?_
        rintro _ w9 ⟨D2, d2, rfl, hn⟩
        replace H := H.addNew hn
        clear hn
        refine ⟨.inl H.forget.forget.forget, ?_⟩
        have hc := c136 hord' s hs256 D2 d2 _ (by rw [hol']; exact own_Sl (H.get 0 rfl))
        rw [hol'] at hc
        refine call_fn hc ?_
        clear hc
        rintro _ w10 ⟨A2, a2, N2, r2, rfl, hgr2, hn⟩
        obtain ⟨e1, e2⟩ := graph_det (by omega) (FnS_low' hord' s) hgr hgr2
        subst e1; subst e2
        replace H := H.addNew hn
        clear hn
        refine ⟨.inl H.forget.forget.forget.forget, ?_⟩
        refine H.storeAll 3 rfl size155 rfl (grC_one _ _ _ _ _ _ _) ?_
        clear H
        intro w11 H
        refine ⟨.inl H.forget.forget.forget.forget, ?_⟩
        have H : Hp w (fun _ => False) w11 [blk g7 155 (grC (.slice D2 o.length d2) (.slice A2 N1.length a2) r1), own 232 3 (.slice A2 N1.length a2) N1.length (flat encI (ndI N1)), own 3 1 (.slice D2 o.length d2) o.length (intsI (swL o j)), blk g5 148 (grC (.slice B1 o.length c1) (.slice A1 N1.length c2) r1), own 3 1 (.slice B1 o.length c1) o.length (intsI (swL o j)), own 230 3 (.slice A1 N1.length c2) N1.length (flat encI (ndI N1)), blk g2 148 (grC (.slice Bo o.length co) (.slice A N.length c) r)] [] := H.sel [3, 0, 1, 4, 5, 6, 7] (by decide) rfl
        exact ⟨(g7, D2, d2, A2, a2), ⟨rfl, trivial⟩, H⟩
    clear H
    rintro ⟨g7, D2, d2, A2, a2⟩ u w5 H
    replace H : Hp _ _ _ _ _ := H
    have hP1 := graph_right hord' (FnS_low' hord' s) hgr
    have hsem1 : sem (arN N1) r1 = FnS (natsI (swL o j)) s := by
      have := hord'.le
      funext a
      exact (graph_made (by omega) (FnS_low' hord' s) hgr).ok.says a
    have hgP := right_graph hP
    rw [hsd] at hgP
    refine cut_rule (γ := Nat × Option Addr × Nat × Option Addr × Nat) _ rfl (fun (g8, _) => [(8, .pointer (some ⟨g8, 0, none⟩)), (9, .int .i64 0)]) (fun (g8, B3, c3, A3, c4) w' => Hp w (fun _ => False) w' [blk g8 148 (grC (.slice B3 o.length c3) (.slice A3 N.length c4) r), own 3 1 (.slice B3 o.length c3) o.length (intsI o), own 230 3 (.slice A3 N.length c4) N.length (flat encI N), blk g7 155 (grC (.slice D2 o.length d2) (.slice A2 N1.length a2) r1), own 232 3 (.slice A2 N1.length a2) N1.length (flat encI (ndI N1)), own 3 1 (.slice D2 o.length d2) o.length (intsI (swL o j)), blk g5 148 (grC (.slice B1 o.length c1) (.slice A1 N1.length c2) r1), own 3 1 (.slice B1 o.length c1) o.length (intsI (swL o j)), own 230 3 (.slice A1 N1.length c2) N1.length (flat encI (ndI N1)), blk g2 148 (grC (.slice Bo o.length co) (.slice A N.length c) r)] []) ?_ ?_
    · refine H.loadAll 3 rfl agg148 size148 ?_
      have hc := c132 (swL o j) (ndI N1) B1 A1 c1 c2 r1 (j : Int) (by omega) (by omega) w5 (by rw [hol']; exact own_Sl (H.get 4 rfl)) (by rw [hN13]; exact own_Sl (H.get 5 rfl))
      rw [hol', hN13] at hc
      refine call_fn hc ?_
      clear hc
      rintro _ w6 (⟨h, _⟩ | ⟨P2, j2, hP2, hj2, _, vo, vn, N2, r2, rfl, hgr2, hn⟩)
      · exact absurd ⟨⟨N1, hP1⟩, h0, h1⟩ h
      · obtain rfl : P2 = N1 := ndI_inj hP2.nds
        obtain rfl : j2 = j := by omega
        rw [hsem1, FnS_swL hord' (by omega), swL_swL hj] at hgr2
        obtain ⟨e1, e2⟩ := graph_det (by omega) (FnS_low' hord s) hgP hgr2
        subst e1; subst e2
        rw [swL_swL hj] at hn
        replace H := (H.addNew hn).split
        rw [hP.nds] at H
        obtain ⟨B3, c3, rfl, _⟩ := own_form (H.get 0 rfl)
        obtain ⟨A3, c4, rfl, _⟩ := own_form (H.get 1 rfl)
        rw [hPl] at H
        refine Hp.alloc H 148 (cs := grC (.slice none 0 0) (.slice none 0 0) 0) zero148 rfl ?_
        clear H
        intro g8 w7 H
        refine H.storeAll 0 rfl size148 rfl (by rw [hPl]; exact grC_one _ _ _ _ _ _ _) ?_
        clear H
        intro w8 H
        rw [hPl] at H
        exact ⟨(g8, B3, c3, A3, c4), ⟨rfl, rfl, trivial⟩, H⟩
    clear H
    rintro ⟨g8, B3, c3, A3, c4⟩ u w6 H
    replace H : Hp _ _ _ _ _ := H
    refine H.draw fol (by kernel_rfl) ?_
    clear H
    intro w7 H
    refine quiet _ (fun w H => H.loadAll 6 rfl agg148 size148 ⟨rfl, rfl⟩) ?_
    have hc := c134 (ndI N1) B1 A1 o.length c1 c2 r1 (by omega) w7 (by rw [hN13]; exact own_Sl (H.get 8 rfl))
    rw [hN13] at hc
    refine call_fn hc ?_
    clear hc
    rintro _ w8 ⟨E, e, rfl, hn⟩
    replace H := H.addNew hn
    clear hn
    refine ⟨.inl H.forget, ?_⟩
    refine quiet _ (fun w H => H.loadAll 3 rfl agg155 size155 ⟨rfl, rfl⟩) ?_
    have hc := c135 (swL o j) (swL o j) B1 D2 c1 d2 (ndI N1) (ndI N1) E A2 e a2 r1 r1 w8 (by omega) (by omega) (by omega) (by omega) (by rw [hol']; exact own_Sl (H.get 8 rfl)) (by rw [hol']; exact own_Sl (H.get 6 rfl)) (by rw [hN13]; exact own_Sl (H.get 0 rfl)) (by rw [hN13]; exact own_Sl (H.get 5 rfl))
    rw [hol', hN13, decide_eq_true (⟨rfl, rfl, rfl⟩ : swL o j = swL o j ∧ ndI N1 = ndI N1 ∧ r1 = r1)] at hc
    refine call_fn hc ?_
    clear hc
    rintro _ w9 ⟨rfl, hk⟩
    replace H := H.same hk
    clear hk
    refine ⟨.inl H.forget, ?_⟩
    iterate 4 refine cond_yes rfl ?_
    refine quiet _ (fun w H => H.loadAll 0 rfl agg148 size148 ⟨rfl, rfl⟩) ?_
    refine cond_yes rfl ?_
    refine call_fn (c134 N B3 A3 o.length c3 c4 r (by omega) _ (own_Sl (H.get 3 rfl))) ?_
    rintro _ w10 ⟨E2, e2, rfl, hn⟩
    replace H := H.addNew hn
    clear hn
    refine ⟨.inl H.forget.forget, ?_⟩
    refine cond_yes rfl ?_
    refine quiet _ (fun w H => H.loadAll 9 rfl agg148 size148 ⟨rfl, rfl⟩) ?_
    refine cond_yes rfl ?_
    refine call_fn (c134 N Bo A o.length co c r (by omega) _ (hA.same H.keeps)) ?_
    rintro _ w11 ⟨E3, e3, rfl, hn⟩
    replace H := H.addNew hn
    clear hn
    refine ⟨.inl H.forget.forget.forget, ?_⟩
    refine cond_yes rfl ?_
    have hc := c135 o o B3 Bo c3 co N N E2 E3 e2 e3 r r _ (by omega) (by omega) (by omega) (by omega) (own_Sl (H.get 4 rfl)) (hS.same H.keeps) (own_Sl (H.get 1 rfl)) (own_Sl (H.get 0 rfl))
    rw [decide_eq_true (⟨rfl, rfl, rfl⟩ : o = o ∧ N = N ∧ r = r)] at hc
    refine call_fn hc ?_
    clear hc
    rintro _ w12 ⟨rfl, hk⟩
    replace H := H.same hk
    clear hk
    refine ⟨.inl H.forget.forget.forget, ?_⟩
    iterate 5 refine cond_yes rfl ?_
    refine call_fn (c131 _) ?_
    rintro _ w18 ⟨rfl, hk⟩
    replace H := H.same hk
    clear hk
    refine ⟨.inl H.forget.forget.forget, ?_⟩
    refine cond_yes rfl ?_
    exact ⟨rfl, H.keeps⟩
  · refine cut_rule (γ := Nat) _ rfl (fun g5 => [(5, .pointer (some ⟨g5, 0, none⟩)), (6, .int .i64 1)]) (fun g5 w' => Hp w (fun _ => False) w' [blk g5 148 (grC (.slice none 0 0) (.slice none 0 0) 0), blk g2 148 (grC (.slice Bo o.length co) (.slice A N.length c) r)] []) ?_ ?_
    · refine H.loadAll 0 rfl agg148 size148 ?_
      refine call_fn (c132 o N Bo A co c r k (by omega) (by omega) w2 (hS.same H.keeps) (hA.same H.keeps)) ?_
      rintro _ w3 (⟨_, rfl, hk⟩ | ⟨P2, j2, hP2, hj2, hj3, _⟩)
      · replace H := H.same hk
        clear hk
        refine Hp.alloc H 148 (cs := grC (.slice none 0 0) (.slice none 0 0) 0) zero148 rfl ?_
        clear H
        intro g5 w4 H
        refine H.storeAll 0 rfl size148 rfl (grC_one _ _ _ _ _ _ _) ?_
        clear H
        intro w5 H
        exact ⟨g5, ⟨rfl, rfl, trivial⟩, H⟩
      · exact absurd ⟨⟨P2, hP2⟩, by omega, by omega⟩ hR
    clear H
    rintro g5 u w3 H
    replace H : Hp _ _ _ _ _ := H
    refine H.loadAll 1 rfl agg148 size148 ?_
    refine call_fn (c134 N Bo A o.length co c r (by omega) _ (hA.same H.keeps)) ?_
    rintro _ w6 ⟨D, d, rfl, hn⟩
    replace H := H.addNew hn
    clear hn
    refine call_fn (c133 o N Bo D co d r (by omega) (by omega) w6 (hS.same H.keeps) (own_Sl (H.get 0 rfl))) ?_
    rintro _ w7 ⟨b, rfl, hb, hk⟩
    replace H := H.same hk
    clear hk
    replace H := H.forget
    cases b with
    | false => iterate 11 refine cond_yes rfl ?_
               refine H.loadAll 0 rfl agg148 size148 ?_
               refine call_fn (c134 [] none none 0 0 0 0 (by decide) _ (sl_nil232 _)) ?_ 
               rintro _ w19 ⟨D, d, rfl, hn⟩ 
               replace H := H.addNew hn 
               clear hn
               refine build155z ?_
               refine call_fn (c135 [] [] none none 0 0 [] [] D none d 0 0 0 _ (by decide) (by decide) (by decide) (by decide) (sl_nil1 _) (sl_nil1 _) (own_Sl (H.get 0 rfl)) (sl_nil232 _)) ?_ 
               rintro _ w22 ⟨rfl, hk⟩ 
               replace H := H.same hk 
               clear hk
               iterate 4 refine cond_yes rfl ?_
               refine call_fn (c131 _) ?_ 
               rintro _ w27 ⟨rfl, hk⟩ 
               replace H := H.same hk 
               clear hk
               refine cond_yes rfl ?_
               exact ⟨rfl, H.keeps⟩
    | true =>
      have hex := hb.1 rfl
      by_cases h0 : k < 0
      · iterate 3 refine cond_no rfl ?_
        iterate 7 refine cond_yes (decide_eq_true (by assumption)) ?_
        refine cond_yes rfl ?_
        refine H.loadAll 0 rfl agg148 size148 ?_
        refine call_fn (c134 [] none none 0 0 0 0 (by decide) _ (sl_nil232 _)) ?_ 
        rintro _ w19 ⟨D, d, rfl, hn⟩ 
        replace H := H.addNew hn 
        clear hn
        refine build155z ?_
        refine call_fn (c135 [] [] none none 0 0 [] [] D none d 0 0 0 _ (by decide) (by decide) (by decide) (by decide) (sl_nil1 _) (sl_nil1 _) (own_Sl (H.get 0 rfl)) (sl_nil232 _)) ?_ 
        rintro _ w22 ⟨rfl, hk⟩ 
        replace H := H.same hk 
        clear hk
        iterate 4 refine cond_yes rfl ?_
        refine call_fn (c131 _) ?_ 
        rintro _ w27 ⟨rfl, hk⟩ 
        replace H := H.same hk 
        clear hk
        refine cond_yes rfl ?_
        exact ⟨rfl, H.keeps⟩
      · have h1 : (o.length : Int) - 2 < k := by
          have h2 : ¬ (0 ≤ k ∧ k + 1 < o.length) := fun h => hR ⟨hex, h⟩
          omega
        iterate 3 refine cond_no rfl ?_
        iterate 2 refine cond_no (decide_eq_false (by assumption)) ?_
        refine fieldAddr_by (fa148_0 _) ?_
        refine cond_no (decide_eq_false (by assumption)) ?_
        refine H.load 1 rfl agg32 rfl ?_
        refine cond_no (decide_eq_false (by assumption)) ?_
        refine len_sl Try.underlying32 ?_
        iterate 3 refine cond_no (decide_eq_false (by assumption)) ?_
        refine cond_yes (decide_eq_true (by omega)) ?_
        refine H.loadAll 0 rfl agg148 size148 ?_
        refine call_fn (c134 [] none none 0 0 0 0 (by decide) _ (sl_nil232 _)) ?_ 
        rintro _ w23 ⟨D, d, rfl, hn⟩ 
        replace H := H.addNew hn 
        clear hn
        refine build155z ?_
        refine call_fn (c135 [] [] none none 0 0 [] [] D none d 0 0 0 _ (by decide) (by decide) (by decide) (by decide) (sl_nil1 _) (sl_nil1 _) (own_Sl (H.get 0 rfl)) (sl_nil232 _)) ?_ 
        rintro _ w25 ⟨rfl, hk⟩ 
        replace H := H.same hk 
        clear hk
        iterate 4 refine cond_yes rfl ?_
        refine call_fn (c131 _) ?_ 
        rintro _ w30 ⟨rfl, hk⟩ 
        replace H := H.same hk 
        clear hk
        refine cond_yes rfl ?_
        exact ⟨rfl, H.keeps⟩
theorem law28 (vo vn : Value) (r k : Int) (w : World) {o : List Int} {N : List I3} (hS : IntsAt w vo o) (hA : ∃ B c, vn = .slice B N.length c ∧ N.length ≤ 9223372036854775807 ∧ Sl w (.slice B N.length c) 3 N.length (flat encI N)) :
    Fun Try.prog 28 [grV vo vn r, .int .i64 k] w fun v w' => v = .bool true ∧ Same w w' := by
  obtain ⟨Bo, co, rfl, _, _, hS⟩ := hS
  obtain ⟨A, c, rfl, _, hA⟩ := hA
  exact law28_m o N Bo A co c r k w hS hA
end Go.Proofs.Ytjebpngdinbckaa
end

import Derived.Test.YtjebpngdinbckaaPart8
/- Lemmas, part 9: what the proof of the row uses. -/
section
/- Graphs: orders turned into others by swaps, plain. -/
namespace Go.Proofs.Ytjebpngdinbckaa
open Go.Dk

/-- How many of the first m are told. -/
def rowP (f : Nat → Bool) : Nat → Nat
  | 0 => 0
  | m + 1 => rowP f m + (if f m then 1 else 0)
/-- How many pairs of the first m are told. -/
def pairP (f : Nat → Nat → Bool) : Nat → Nat
  | 0 => 0
  | m + 1 => pairP f m + rowP (f m) m
theorem row_congr {f g : Nat → Bool} : ∀ {m : Nat}, (∀ k, k < m → f k = g k) → rowP f m = rowP g m
  | 0, _ => rfl
  | m + 1, h => by rw [rowP, rowP, row_congr fun k hk => h k (by omega), h m (by omega)]
theorem row_drop {f g : Nat → Bool} {k0 : Nat} (h0 : f k0 = true) (h1 : g k0 = false) : ∀ {m : Nat}, k0 < m → (∀ k, k < m → k ≠ k0 → f k = g k) → rowP f m = rowP g m + 1
  | 0, h, _ => absurd h (Nat.not_lt_zero _)
  | m + 1, h, e => by
    rw [rowP, rowP]
    by_cases hm : k0 = m
    · subst hm
      rw [row_congr (f := f) (g := g) fun k hk => e k (by omega) (by omega), h0, h1]
      rfl
    · rw [row_drop h0 h1 (m := m) (by omega) fun k hk hne => e k (by omega) hne, e m (by omega) (Ne.symm hm)]
      omega
theorem row_le (f : Nat → Bool) : ∀ m : Nat, rowP f m ≤ m
  | 0 => Nat.le_refl _
  | m + 1 => by
    have := row_le f m
    rw [rowP]
    split <;> omega
theorem pair_congr {f g : Nat → Nat → Bool} : ∀ {m : Nat}, (∀ i k, i < m → k < i → f i k = g i k) → pairP f m = pairP g m
  | 0, _ => rfl
  | m + 1, h => by rw [pairP, pairP, pair_congr fun i k hi hk => h i k (by omega) hk, row_congr fun k hk => h m k (by omega) hk]
theorem pair_drop {f g : Nat → Nat → Bool} {i0 k0 : Nat} (hk : k0 < i0) (h0 : f i0 k0 = true) (h1 : g i0 k0 = false) : ∀ {m : Nat}, i0 < m → (∀ i k, i < m → k < i → ¬ (i = i0 ∧ k = k0) → f i k = g i k) → pairP f m = pairP g m + 1
  | 0, h, _ => absurd h (Nat.not_lt_zero _)
  | m + 1, h, e => by
    rw [pairP, pairP]
    by_cases hm : i0 = m
    · subst hm
      rw [pair_congr (f := f) (g := g) fun i k hi hk => e i k (by omega) hk (by omega), row_drop h0 h1 hk fun k hk hne => e _ k (by omega) hk (by omega)]
      omega
    · rw [pair_drop hk h0 h1 (m := m) (by omega) fun i k hi hk hne => e i k (by omega) hk hne, row_congr fun k hk => e m k (by omega) hk (by omega)]
      omega
theorem pair_zero {f : Nat → Nat → Bool} : ∀ {m : Nat}, (∀ i k, i < m → k < i → f i k = false) → pairP f m = 0
  | 0, _ => rfl
  | m + 1, h => by
    rw [pairP, pair_zero fun i k hi hk => h i k (by omega) hk, row_congr (g := fun _ => false) fun k hk => h m k (by omega) hk]
    have : ∀ m, rowP (fun _ => false) m = 0 := fun m => by
      induction m with
      | zero => rfl
      | succ m ih => rw [rowP, ih]; rfl
    rw [this]
theorem pair_le (f : Nat → Nat → Bool) : ∀ m : Nat, pairP f m ≤ m * m
  | 0 => Nat.le_refl _
  | m + 1 => by
    have h1 := pair_le f m
    have h2 := row_le (f m) m
    rw [pairP, Nat.succ_mul, Nat.mul_succ]
    omega
/-- Do two stand the other way round in two orders? -/
def invB (p q : List Nat) (i k : Nat) : Bool := decide (p.idxOf i < p.idxOf k) != decide (q.idxOf i < q.idxOf k)
theorem idx_swL {o : List Int} (h : OrdI o) {k : Nat} (hk : k + 1 < o.length) {j : Nat} (hj : j < o.length) : (natsI (swL o k)).idxOf j = sw k ((natsI o).idxOf j) := by
  have hl : (natsI (swL o k)).length = (natsI o).length := by rw [natsI_length, natsI_length, swL_length]
  have ho := h.nats
  have ho' := (swL_ord h hk).nats
  have hj : j < (natsI o).length := by rw [natsI_length]; exact hj
  have h1 := ho.idx_lt hj
  have h2 : sw k ((natsI o).idxOf j) < (natsI o).length := by rw [natsI_length] at h1 ⊢; exact sw_lt hk h1
  have h3 : (natsI (swL o k)).getD (sw k ((natsI o).idxOf j)) 0 = j := by rw [natsI_swL hk, sw_sw, ho.get_idx hj]
  have := ho'.idx_get (k := sw k ((natsI o).idxOf j)) (by omega)
  rwa [h3] at this
theorem swL_swL {o : List Int} {k : Nat} (hk : k + 1 < o.length) : swL (swL o k) k = o := by
  refine List.ext_getElem? fun j => ?_
  rw [swL_get (by rw [swL_length]; exact hk), swL_get hk, sw_sw]
theorem swF_swF (k : Nat) (F : Dk.Fn) : swF k (swF k F) = F := by
  funext a
  show F (swA k (swA k a)) = F a
  congr 1
  funext j
  show a (sw k (sw k j)) = a j
  rw [sw_sw]
theorem sw_less {k p q : Nat} (h1 : ¬ (p = k ∧ q = k + 1)) (h2 : ¬ (p = k + 1 ∧ q = k)) : sw k p < sw k q ↔ p < q := by
  unfold sw
  split <;> split <;> (try split) <;> (try split) <;> omega
/-- The first places are the other order's. -/
def Agree (q o : List Int) (i : Nat) : Prop := ∀ j, j < i → q[j]? = o[j]?
theorem Agree.all {q o : List Int} (h : Agree q o o.length) (hl : q.length = o.length) : q = o := by
  refine List.ext_getElem? fun j => ?_
  by_cases hj : j < o.length
  · exact h j hj
  · rw [List.getElem?_eq_none (by omega), List.getElem?_eq_none (by omega)]
theorem nats_at {o : List Int} {j : Nat} (hj : j < o.length) : ∃ x, o[j]? = some x ∧ (natsI o).getD j 0 = x.toNat := ⟨_, List.getElem?_eq_getElem hj, natsI_get (List.getElem?_eq_getElem hj)⟩
/-- One swap less. -/
theorem inv_step {q o : List Int} (hq : OrdI q) (ho : OrdI o) (hl : q.length = o.length) {i a : Nat} (hag : Agree q o i) (hi : i ≤ a) (ha : a + 1 < q.length) (hx : q[a + 1]? = o[i]?) :
    Agree (swL q a) o i ∧ (swL q a)[a]? = o[i]? ∧ pairP (invB (natsI q) (natsI o)) q.length = pairP (invB (natsI (swL q a)) (natsI o)) q.length + 1 := by
  have hqn := hq.nats
  have hon := ho.nats
  have hql := natsI_length q
  have hol := natsI_length o
  have hio : i < o.length := by omega
  refine ⟨fun j hj => ?_, ?_, ?_⟩
  · rw [swL_get ha]
    have : sw a j = j := by unfold sw; rw [if_neg (by omega), if_neg (by omega)]
    rw [this]; exact hag j hj
  · rw [swL_get ha]
    have : sw a a = a + 1 := by unfold sw; rw [if_pos rfl]
    rw [this]; exact hx
  · have hgx : (natsI q).getD (a + 1) 0 = (natsI o).getD i 0 := by
      obtain ⟨x, h1, h2⟩ := nats_at (o := o) hio
      rw [h2]
      exact natsI_get (hx.trans h1)
    generalize hxd : (natsI o).getD i 0 = x at hgx
    generalize hyd : (natsI q).getD a 0 = y
    have hxl : x < q.length := by have := hon.get_lt (k := i) (by omega); omega
    have hyl : y < q.length := by have := hqn.get_lt (k := a) (by omega); omega
    have pqx : (natsI q).idxOf x = a + 1 := by rw [← hgx]; exact hqn.idx_get (by omega)
    have pqy : (natsI q).idxOf y = a := by rw [← hyd]; exact hqn.idx_get (by omega)
    have pox : (natsI o).idxOf x = i := by rw [← hxd]; exact hon.idx_get (by omega)
    have hxy : x ≠ y := fun h => by rw [h] at pqx; omega
    have poy : i < (natsI o).idxOf y := by
      have hp := hon.idx_lt (i := y) (by omega)
      have hg := hon.get_idx (i := y) (by omega)
      generalize (natsI o).idxOf y = p at hp hg
      refine Nat.lt_of_not_le fun hpi => ?_
      by_cases he : p = i
      · subst he; exact hxy (hxd.symm.trans hg)
      · have h1 := hag p (by omega)
        obtain ⟨z, h2, h3⟩ := nats_at (o := o) (j := p) (by omega)
        have h4 : (natsI q).getD p 0 = z.toNat := natsI_get (h1.trans h2)
        rw [← h3, hg] at h4
        have h5 := hqn.idx_get (k := p) (by omega)
        rw [h4] at h5
        omega
    have sx : (natsI (swL q a)).idxOf x = a := by rw [idx_swL hq ha hxl, pqx]; unfold sw; rw [if_neg (by omega), if_pos rfl]
    have sy : (natsI (swL q a)).idxOf y = a + 1 := by rw [idx_swL hq ha hyl, pqy]; unfold sw; rw [if_pos rfl]
    have other : ∀ u v, u < q.length → v < q.length → ¬ (u = x ∧ v = y) → ¬ (u = y ∧ v = x) → invB (natsI q) (natsI o) u v = invB (natsI (swL q a)) (natsI o) u v := fun u v hu hv n1 n2 => by
      unfold invB
      have gu := hqn.get_idx (i := u) (by omega)
      have gv := hqn.get_idx (i := v) (by omega)
      rw [idx_swL hq ha hu, idx_swL hq ha hv]
      congr 1
      refine decide_eq_decide.2 (sw_less ?_ ?_).symm
      · rintro ⟨h1, h2⟩
        rw [h1, hyd] at gu
        rw [h2, hgx] at gv
        exact n2 ⟨gu.symm, gv.symm⟩
      · rintro ⟨h1, h2⟩
        rw [h1, hgx] at gu
        rw [h2, hyd] at gv
        exact n1 ⟨gu.symm, gv.symm⟩
    by_cases hlt : x < y
    · refine pair_drop (i0 := y) (k0 := x) hlt ?_ ?_ hyl fun u v hu hv hne => other u v hu (by omega) (by omega) (by omega)
      · unfold invB
        rw [pqx, pqy, pox, decide_eq_true (by omega : a < a + 1), decide_eq_false (by omega)]; rfl
      · unfold invB
        rw [sx, sy, pox, decide_eq_false (by omega : ¬ a + 1 < a), decide_eq_false (by omega)]; rfl
    · refine pair_drop (i0 := x) (k0 := y) (by omega) ?_ ?_ hxl fun u v hu hv hne => other u v hu (by omega) (by omega) (by omega)
      · unfold invB
        rw [pqx, pqy, pox, decide_eq_false (by omega : ¬ a + 1 < a), decide_eq_true (by omega)]; rfl
      · unfold invB
        rw [sx, sy, pox, decide_eq_true (by omega : a < a + 1), decide_eq_true (by omega)]; rfl
theorem inv_none (o : List Nat) (m : Nat) : pairP (invB o o) m = 0 := pair_zero fun i k _ _ => by unfold invB; exact bne_self_eq_false _
/-- What a graph that is right says, as the set that is read. -/
theorem sem_right {o : List Int} {N : List I3} {r : Int} {P : List Nd} (h : RightG o N r P) : sem (arN P) r = FnS (natsI o) (setD (natsI o) (arN P) r) := by
  funext a
  have ho := h.ord.nats
  have hlt := ptA_lt (natsI o) a
  have h8 : (natsI o).length ≤ 8 := ho.le
  have h256 := Nat.pow_le_pow_right (show 0 < 2 by decide) h8
  unfold FnS setD
  rw [testBit_setOf, decide_eq_true hlt, decide_eq_true (show ptA (natsI o) a < 256 by omega), Bool.true_and, Bool.true_and]
  refine (sem_low h.inv r _ _ fun j hj => ?_).symm
  exact asg_pt ho a (by rw [natsI_length]; exact hj)
theorem few_nodes {o : List Int} (hord : OrdI o) {s : Nat} {N : List Nd} {r : Int} (hgr : IsGraph (FnS (natsI o) s) N r) : N.length ≤ 1000 := by
  have ho8 := hord.le
  have hF := FnS_low' hord s
  have hm := graph_made (by omega) hF hgr
  have hf := made_few hm (low_hangs hF)
  rw [arN_live, List.length_range] at hf
  have h256 := pow_le_256 ho8
  have : liveA ([] : Ar) = 0 := rfl
  omega
end Go.Proofs.Ytjebpngdinbckaa
end

section
/- More arguments of laws, opened: graphs. -/
namespace Go.Proofs.Ytjebpngdinbckaa
open Go.Dk Go.ChangeShapes Go.WideShapes Go.ChangeAt Go.RowKit
/-- Nodes, as they are handed in. -/
def NodesAt (w : World) (v : Value) (N : List I3) : Prop := ∃ B c, v = .slice B N.length c ∧ N.length ≤ 9223372036854775807 ∧ Sl w (.slice B N.length c) 3 N.length (flat encI N)
section
variable {H : Type} {enc : TypeId × Value → H} {w : World} {base b : Nat} {spare : Nat → Bool} {held : Bool}
set_option maxRecDepth 100000 in
theorem cells230 : Try.prog.cellsOf 230 = 3 := by kernel_rfl
theorem cells146 : Try.prog.cellsOf 146 = 1 := by kernel_rfl
theorem cells148 : Try.prog.cellsOf 148 = 3 := by kernel_rfl
set_option maxRecDepth 100000 in
theorem node_at {fuel : Nat} {r : List Value} {x : DataW H × List MemPlace} (h : DataW.trod enc Try.prog w base spare held fuel 230 r = some x) : ∃ e : I3, True ∧ r = encI e := by
  obtain ⟨xs, n, _, _, hl, hlen, hf⟩ := DataW.trod_struct Try.underlying230 h
  rw [cells230] at hl
  have f0 : DataW.trod enc Try.prog w base spare held n 3 ((r.drop 0).take (Try.prog.cellsOf 3)) = xs[0]? := hf 0 _ rfl
  rw [cells3] at f0
  have f1 : DataW.trod enc Try.prog w base spare held n 3 ((r.drop 1).take (Try.prog.cellsOf 3)) = xs[1]? := hf 1 _ rfl
  rw [cells3] at f1
  have f2 : DataW.trod enc Try.prog w base spare held n 3 ((r.drop 2).take (Try.prog.cellsOf 3)) = xs[2]? := hf 2 _ rfl
  rw [cells3] at f2
  match r, hl, xs, hlen, f0, f1, f2 with
  | [c0, c1, c2], _, [y0, y1, y2], _, f0, f1, f2 =>
    obtain ⟨n0, k0, e0⟩ := int_at f0
    obtain ⟨n1, k1, e1⟩ := int_at f1
    obtain ⟨n2, k2, e2⟩ := int_at f2
    simp at e0 e1 e2
    subst e0; subst e1; subst e2
    exact ⟨(n0, n1, n2), trivial, rfl⟩
set_option maxRecDepth 100000 in
theorem nodes_at {fuel : Nat} {v : Value} {x : DataW H × List MemPlace} (h : DataW.trod enc Try.prog w base spare held fuel 146 [v] = some x) : ∃ N, NodesAt w v N := by
  obtain ⟨A, c, l, hv, hl, _, hs⟩ := arg_list Try.underlying146 cells230 (by decide) encI (fun _ => True) encI_length (fun fuel r y hy => node_at hy) h
  exact ⟨l, A, c, hv, hl, hs⟩
set_option maxRecDepth 100000 in
theorem arg_graph {v : Value} {d : DataW H} {ps : List MemPlace} (hval : Value.okWide Try.prog w .any b 148 v) (h : DataW.Trod enc Try.prog w base spare held 148 v d ps) : ∃ vo vn r o N, okI r ∧ IntsAt w vo o ∧ NodesAt w vn N ∧ v = grV vo vn r := by
  unfold Value.okWide at hval
  rw [Try.underlying148] at hval
  obtain ⟨cs, rfl, hsz, _⟩ := hval
  obtain ⟨fuel, hf⟩ := h
  obtain ⟨xs, n, _, _, hl, hlen, hx⟩ := DataW.trod_struct Try.underlying148 hf
  rw [cells148] at hl
  obtain ⟨l, rfl⟩ : ∃ l : List Value, cs = l.toArray := ⟨cs.toList, by simp⟩
  have hl' : l.length = 3 := hl
  have f0 : DataW.trod enc Try.prog w base spare held n 32 ((l.drop 0).take (Try.prog.cellsOf 32)) = xs[0]? := hx 0 _ rfl
  rw [cells32] at f0
  have f1 : DataW.trod enc Try.prog w base spare held n 146 ((l.drop 1).take (Try.prog.cellsOf 146)) = xs[1]? := hx 1 _ rfl
  rw [cells146] at f1
  have f2 : DataW.trod enc Try.prog w base spare held n 3 ((l.drop 2).take (Try.prog.cellsOf 3)) = xs[2]? := hx 2 _ rfl
  rw [cells3] at f2
  match l, hl', xs, hlen, f0, f1, f2 with
  | [c0, c1, c2], _, [y0, y1, y2], _, f0, f1, f2 =>
    obtain ⟨o, ho⟩ := ints_at f0
    obtain ⟨N, hN⟩ := nodes_at f1
    obtain ⟨m, hm, he⟩ := int_at f2
    have he' : [c2] = [Value.int .i64 m] := he
    injection he' with he' _
    subst he'
    exact ⟨c0, c1, m, o, N, hm, ho, hN, rfl⟩
end
end Go.Proofs.Ytjebpngdinbckaa
end

section
/- Graphs: at, Pairs. -/
namespace Go.Proofs.Ytjebpngdinbckaa
open Go.Dk
attribute [local irreducible] IntKind.wrap

theorem ent203 : enters Try.prog 203 = true := by kernel_rfl
theorem c203 {o : List Int} (hord : OrdI o) (B : Option Addr) (co : Nat) (x : Nat) (hx : x < o.length) (w : World) (hS : Sl w (.slice B o.length co) 1 o.length (intsI o)) :
    Fun Try.prog 203 [.slice B o.length co, .int .i64 (x : Int)] w fun v w' => v = .int .i64 (((natsI o).idxOf x : Nat) : Int) ∧ Same w w' := by
  refine fun_of_W (N := 15) Try.func203 ent203 rfl rfl rfl (by simp) ?_
  have H := Hp.start0 w
  have ho8 := hord.le
  have hon := hord.nats
  have hln := natsI_length o
  have hil := hon.idx_lt (i := x) (by omega)
  have hig := hon.get_idx (i := x) (by omega)
  obtain ⟨gB, oB, rfl⟩ := hS.A (by omega)
  refine cut_rule (γ := Unit) _ rfl (fun _ => [(4, .int .i64 0)]) (fun _ w' => Hp w (fun _ => False) w' [] []) ⟨(), ⟨rfl, trivial⟩, H⟩ ?_
  clear H
  rintro ⟨⟩ u w1 H
  replace H : Hp _ _ _ _ _ := H
  refine cut_rule (γ := Unit) _ rfl (fun _ => [(5, .int .i64 0)]) (fun _ w' => Hp w (fun _ => False) w' [] []) ⟨(), ⟨rfl, trivial⟩, H⟩ ?_
  clear H
  rintro ⟨⟩ u w2 H
  replace H : Hp _ _ _ _ _ := H
  refine cut_rule (γ := Unit) _ rfl (fun _ => [(5, .int .i64 (((natsI o).idxOf x : Nat) : Int))]) (fun _ w' => Hp w (fun _ => False) w' [] []) ?_ ?_
  · refine loop_rule (γ := Nat) _ rfl (fun i => [(5, .int .i64 (i : Int))]) (fun i w' => i ≤ (natsI o).idxOf x ∧ Hp w (fun _ => False) w' [] []) (fun i => o.length - i) 0 ⟨rfl, trivial⟩ ⟨Nat.zero_le _, H⟩ ?_
    clear H
    rintro i u w3 ⟨hi, H⟩
    replace H : Hp _ _ _ _ _ := H
    obtain ⟨z, hz, hzn⟩ := nats_at (o := o) (j := i) (by omega)
    have hz0 := hord.rng z (List.mem_of_getElem? hz)
    have hgz : (intsI o)[i]? = some (.int .i64 z) := intsI_at hz
    have hiff : z = (x : Int) ↔ i = (natsI o).idxOf x := by
      constructor
      · intro h
        have := hon.idx_get (k := i) (by omega)
        rw [hzn, h] at this
        simpa using this.symm
      · rintro rfl
        rw [hig] at hzn
        omega
    refine idxAddr_sl Try.underlying32 (s := 1) size3 i rfl (by omega) (o' := oB + i) (by omega) ?_
    refine H.loadSl (i := i) hS agg3 _ rfl hgz ?_
    refine cond_bne (fun he => ?_) (fun he => ?_)
    · exact ⟨i + 1, by show o.length - (i + 1) < o.length - i; omega, ⟨up (by omega), trivial⟩, by show i + 1 ≤ (natsI o).idxOf x; have : ¬ i = (natsI o).idxOf x := fun h => he (hiff.2 h); omega, H⟩
    · have : i = (natsI o).idxOf x := hiff.1 he
      subst this
      exact ⟨(), ⟨rfl, trivial⟩, H⟩
  clear H
  rintro ⟨⟩ u w3 H
  replace H : Hp _ _ _ _ _ := H
  exact ⟨rfl, H.keeps⟩
theorem ent141 : enters Try.prog 141 = true := by kernel_rfl
theorem c141 {a b : List Int} (ha : OrdI a) (hb : OrdI b) (hab : b.length = a.length) (A B : Option Addr) (ca cb : Nat) (w : World) (hA : Sl w (.slice A a.length ca) 1 a.length (intsI a)) (hB : Sl w (.slice B a.length cb) 1 a.length (intsI b)) :
    Fun Try.prog 141 [.slice A a.length ca, .slice B a.length cb] w fun v w' => v = .int .i64 ((pairP (invB (natsI a) (natsI b)) a.length : Nat) : Int) ∧ Same w w' := by
  refine fun_of_W (N := 37) Try.func141 ent141 rfl rfl rfl (by simp) ?_
  have H := Hp.start0 w
  have ha8 := ha.le
  refine cut_rule (γ := Unit) _ rfl (fun _ => [(4, .int .i64 0)]) (fun _ w' => Hp w (fun _ => False) w' [] []) ⟨(), ⟨rfl, trivial⟩, H⟩ ?_
  clear H
  rintro ⟨⟩ u w1 H
  replace H : Hp _ _ _ _ _ := H
  refine cut_rule (γ := Unit) _ rfl (fun _ => [(5, .int .i64 0)]) (fun _ w' => Hp w (fun _ => False) w' [] []) ⟨(), ⟨rfl, trivial⟩, H⟩ ?_
  clear H
  rintro ⟨⟩ u w2 H
  replace H : Hp _ _ _ _ _ := H
  have hpl : ∀ i, i ≤ a.length → pairP (invB (natsI a) (natsI b)) i ≤ 64 := fun i hi => Nat.le_trans (pair_le _ i) (by have := Nat.mul_le_mul (show i ≤ 8 by omega) (show i ≤ 8 by omega); omega)
  refine cut_rule (γ := Unit) _ rfl (fun _ => [(5, .int .i64 ((pairP (invB (natsI a) (natsI b)) a.length : Nat) : Int))]) (fun _ w' => Hp w (fun _ => False) w' [] []) ?_ ?_
  · refine loop_rule (γ := Nat) _ rfl (fun i => [(6, .int .i64 (i : Int)), (5, .int .i64 ((pairP (invB (natsI a) (natsI b)) i : Nat) : Int))]) (fun i w' => i ≤ a.length ∧ Hp w (fun _ => False) w' [] []) (fun i => a.length - i) 0 ⟨rfl, rfl, trivial⟩ ⟨Nat.zero_le _, H⟩ ?_
    clear H
    rintro i u w4 ⟨hi, H⟩
    replace H : Hp _ _ _ _ _ := H
    have hpi := hpl i hi
    refine len_sl Try.underlying32 ?_
    refine cond_dec (fun h7 => ?_) (fun h7 => ?_)
    · refine cut_rule (γ := Unit) _ rfl (fun _ => [(5, .int .i64 ((pairP (invB (natsI a) (natsI b)) (i + 1) : Nat) : Int))]) (fun _ w' => Hp w (fun _ => False) w' [] []) ?_ ?_
      · have hil : i < a.length := by omega
        refine loop_rule (γ := Nat) _ rfl (fun k => [(7, .int .i64 (k : Int)), (5, .int .i64 ((pairP (invB (natsI a) (natsI b)) i + rowP (invB (natsI a) (natsI b) i) k : Nat) : Int))]) (fun k w' => k ≤ i ∧ Hp w (fun _ => False) w' [] []) (fun k => i - k) 0 ⟨rfl, rfl, trivial⟩ ⟨Nat.zero_le _, H⟩ ?_
        clear H
        rintro k u w6 ⟨hk, H⟩
        replace H : Hp _ _ _ _ _ := H
        have hrk := row_le (invB (natsI a) (natsI b) i) k
        refine cond_dec (fun h8 => ?_) (fun h8 => ?_)
        · refine cut_rule (γ := Unit) _ rfl (fun _ => [(5, .int .i64 ((pairP (invB (natsI a) (natsI b)) i + rowP (invB (natsI a) (natsI b) i) (k + 1) : Nat) : Int))]) (fun _ w' => Hp w (fun _ => False) w' [] []) ?_ ?_
          · refine call_fn (c203 ha A ca i (by omega) _ (hA.same H.keeps)) ?_
            rintro _ w7 ⟨rfl, hk7⟩
            replace H := H.same hk7
            refine call_fn (c203 ha A ca k (by omega) _ (hA.same H.keeps)) ?_
            rintro _ w8 ⟨rfl, hk8⟩
            replace H := H.same hk8
            have hc := fun x hx => c203 hb B cb x hx w8 (by rw [hab]; exact hB.same H.keeps)
            rw [hab] at hc
            refine call_fn (hc i (by omega)) ?_
            rintro _ w9 ⟨rfl, hk9⟩
            replace H := H.same hk9
            have hc := fun x hx => c203 hb B cb x hx w9 (by rw [hab]; exact hB.same H.keeps)
            rw [hab] at hc
            refine call_fn (hc k (by omega)) ?_
            rintro _ w10 ⟨rfl, hk10⟩
            replace H := H.same hk10
            refine bin_neq_bool Try.underlying4 ?_
            refine cond_split (fun h5 => ?_) (fun h5 => ?_)
            · have e : invB (natsI a) (natsI b) i k = true := by rw [← h5]; unfold invB; simp only [Int.ofNat_lt]
              exact ⟨(), ⟨by rw [rowP, e, if_pos rfl, ← Nat.add_assoc]; exact up (by omega), trivial⟩, H⟩
            · have e : invB (natsI a) (natsI b) i k = false := by rw [← h5]; unfold invB; simp only [Int.ofNat_lt]
              exact ⟨(), ⟨by rw [rowP, e, if_neg (by decide), Nat.add_zero]; rfl, trivial⟩, H⟩
          · clear H
            rintro ⟨⟩ u w7 H
            exact ⟨k + 1, by show i - (k + 1) < i - k; omega, ⟨up (by omega), rfl, trivial⟩, by show k + 1 ≤ i; omega, H⟩
        · have : k = i := by omega
          subst this
          exact ⟨(), ⟨rfl, trivial⟩, H⟩
      · clear H
        rintro ⟨⟩ u w5 H
        exact ⟨i + 1, by show a.length - (i + 1) < a.length - i; omega, ⟨up (by omega), rfl, trivial⟩, by show i + 1 ≤ a.length; omega, H⟩
    · have : i = a.length := by omega
      subst this
      exact ⟨(), ⟨rfl, trivial⟩, H⟩
  clear H
  rintro ⟨⟩ u w4 H
  replace H : Hp _ _ _ _ _ := H
  exact ⟨rfl, H.keeps⟩
end Go.Proofs.Ytjebpngdinbckaa
end

section
/- Graphs: Follow. -/
namespace Go.Proofs.Ytjebpngdinbckaa
open Go.Dk
attribute [local irreducible] IntKind.wrap

/-- What is there while an order is turned into another one. -/
structure FolI (s tot : Nat) (o q : List Int) (i : Nat) (N : List Nd) (r : Int) : Prop where
  ord : OrdI q
  len : q.length = o.length
  ag : Agree q o i
  gr : IsGraph (FnS (natsI q) s) N r
  le : pairP (invB (natsI q) (natsI o)) o.length ≤ tot
def SlOf (w0 : World) (F : Nat → Prop) (L : List Res) (vo vn : Value) (q : List Int) (N : List Nd) : Prop := ∀ u, Hp w0 F u L [] → Sl u vo 1 q.length (intsI q) ∧ Sl u vn 3 N.length (flat encI (ndI N))
theorem FolI.right {s tot : Nat} {o q : List Int} {i : Nat} {N : List Nd} {r : Int} (h : FolI s tot o q i N r) : RightG q (ndI N) r N := graph_right h.ord (FnS_low' h.ord s) h.gr
theorem FolI.swap {s tot : Nat} {o q : List Int} {i : Nat} {N : List Nd} {r : Int} (h : FolI s tot o q i N r) (ho : OrdI o) {a : Nat} (hi : i ≤ a) (ha : a + 1 < o.length) (hx : q[a + 1]? = o[i]?) {N' : List Nd} {r' : Int} (hg : IsGraph (swF a (sem (arN N) r)) N' r') :
    FolI s tot o (swL q a) i N' r' ∧ (swL q a)[a]? = o[i]? ∧ pairP (invB (natsI q) (natsI o)) o.length = pairP (invB (natsI (swL q a)) (natsI o)) o.length + 1 := by
  have hord := h.ord
  have hl := h.len
  obtain ⟨h1, h2, h3⟩ := inv_step h.ord ho h.len h.ag hi (by omega) hx
  rw [h.len] at h3
  have hsem : sem (arN N) r = FnS (natsI q) s := by
    have := hord.le
    funext b
    exact (graph_made (by omega) (FnS_low' hord s) h.gr).ok.says b
  rw [hsem, FnS_swL hord (by omega)] at hg
  exact ⟨⟨swL_ord hord (by omega), by rw [swL_length]; exact h.len, h1, hg, by have := h.le; omega⟩, h2, h3⟩
def cntF (tot : Nat) (o q : List Int) : Nat := tot - pairP (invB (natsI q) (natsI o)) o.length
abbrev FolP (g2 g4 : Nat) (Bq A : Option Addr) (n cq m c : Nat) (r : Int) (L : List Res) : List Res := blk g2 148 (grC (.slice Bq n cq) (.slice A m c) r) :: blk g4 148 (grC (.slice none 0 0) (.slice none 0 0) 0) :: L
theorem flat_one' (l : List I3) : ∀ v ∈ flat encI l, v.oneCell' = true := fun v hv => by
  unfold flat at hv
  obtain ⟨x, _, hx⟩ := List.mem_flatMap.1 hv
  exact encI_one x v hx
theorem ent140 : enters Try.prog 140 = true := by kernel_rfl
theorem c140 (q0 : List Int) (N0 : List I3) (Bo A : Option Addr) (co c : Nat) (r : Int) (o : List Int) (B : Option Addr) (cb : Nat) (hql : q0.length ≤ 1000) (hl : N0.length ≤ 1000) (hol : o.length ≤ 1000) (w : World) (hS : Sl w (.slice Bo q0.length co) 1 q0.length (intsI q0)) (hA : Sl w (.slice A N0.length c) 3 N0.length (flat encI N0)) (hO : Sl w (.slice B o.length cb) 1 o.length (intsI o)) :
    Fun Try.prog 140 [grV (.slice Bo q0.length co) (.slice A N0.length c) r, .slice B o.length cb] w fun v w' =>
      (¬ ((∃ P, RightG q0 N0 r P) ∧ OrdI o ∧ o.length = q0.length) ∧ v = .tuple #[grV (.slice none 0 0) (.slice none 0 0) 0, .int .i64 0, .int .i64 1] ∧ Same w w') ∨
      ∃ P, RightG q0 N0 r P ∧ OrdI o ∧ o.length = q0.length ∧ ∃ vo vn N' r', v = .tuple #[grV vo vn r', .int .i64 ((pairP (invB (natsI q0) (natsI o)) o.length : Nat) : Int), .int .i64 0] ∧ IsGraph (FnS (natsI o) (setD (natsI q0) (arN P) r)) N' r' ∧ NewR w w' (grR vo vn o N') := by
  refine fun_of_W (N := 68) Try.func140 ent140 rfl rfl rfl (by simp) ?_
  have H := Hp.start0 w
  refine cut_rule (γ := Nat × Nat) _ rfl (fun (g2, g4) => [(2, .pointer (some ⟨g2, 0, none⟩)), (4, .pointer (some ⟨g4, 0, none⟩)), (5, .int .i64 0), (6, .int .i64 0)]) (fun (g2, g4) w' => Hp w (fun _ => False) w' [blk g2 148 (grC (.slice Bo q0.length co) (.slice A N0.length c) r), blk g4 148 (grC (.slice none 0 0) (.slice none 0 0) 0)] []) ?_ ?_
  · refine H.box 148 _ (cs := grC (.slice Bo q0.length co) (.slice A N0.length c) r) rfl ?_
    clear H
    intro g2 w1 H
    refine H.alloc 148 (cs := grC (.slice none 0 0) (.slice none 0 0) 0) zero148 rfl ?_
    clear H
    intro g4 w2 H
    exact ⟨(g2, g4), ⟨rfl, rfl, rfl, rfl, trivial⟩, H.front 1 rfl⟩
  clear H
  rintro ⟨g2, g4⟩ u w1 H
  replace H : Hp _ _ _ _ _ := H
  refine cut_rule (γ := Unit) _ rfl (fun _ => []) (fun _ w' => ((∃ P, RightG q0 N0 r P) ∧ OrdI o ∧ o.length = q0.length) ∧ Hp w (fun _ => False) w' [blk g2 148 (grC (.slice Bo q0.length co) (.slice A N0.length c) r), blk g4 148 (grC (.slice none 0 0) (.slice none 0 0) 0)] []) ?_ ?_
  · refine H.loadAll 0 rfl agg148 size148 ?_
    refine call_fn (c143 q0 N0 Bo A co c r hql hl _ (hS.same H.keeps) (hA.same H.keeps)) ?_
    rintro _ w2 ⟨b, rfl, hb, hk⟩
    replace H := H.same hk
    clear hk
    cases b with
    | false =>
      have hno : ¬ ((∃ P, RightG q0 N0 r P) ∧ OrdI o ∧ o.length = q0.length) := fun h => Bool.noConfusion (hb.2 h.1)
      iterate 12 refine cond_yes rfl ?_
      refine build148z ?_
      refine H.storeAll 1 rfl size148 rfl (grC_one _ _ _ _ _ _ _) ?_ 
      clear H 
      intro w17 H
      refine H.loadAll 1 rfl agg148 size148 ?_
      refine ⟨rfl, ?_⟩
      exact .inl ⟨hno, rfl, H.keeps⟩
    | true =>
      have hyes := hb.1 rfl
      by_cases ho : OrdI o
      · by_cases he : o.length = q0.length
        · iterate 2 refine cond_no rfl ?_
          refine call_fn (c202 o B cb _ (by omega) (hO.same H.keeps)) ?_ 
          rintro _ w6 ⟨rfl, hk⟩ 
          replace H := H.same hk 
          clear hk 
          rw [decide_eq_true ho]
          iterate 4 refine cond_no rfl ?_
          refine len_sl Try.underlying32 ?_
          refine cond_no rfl ?_
          refine fieldAddr_by (fa148_0 _) ?_
          refine cond_no rfl ?_
          refine H.load 0 rfl agg32 rfl ?_
          refine cond_no rfl ?_
          refine len_sl Try.underlying32 ?_
          iterate 2 refine cond_no rfl ?_
          refine cond_no (bne_eq_false_iff_eq.2 (by omega)) ?_
          exact ⟨(), trivial, ⟨hyes, ho, he⟩, H⟩
        · have hno : ¬ ((∃ P, RightG q0 N0 r P) ∧ OrdI o ∧ o.length = q0.length) := fun h => he h.2.2
          iterate 2 refine cond_no rfl ?_
          refine call_fn (c202 o B cb _ (by omega) (hO.same H.keeps)) ?_ 
          rintro _ w6 ⟨rfl, hk⟩ 
          replace H := H.same hk 
          clear hk 
          rw [decide_eq_true ho]
          iterate 4 refine cond_no rfl ?_
          refine len_sl Try.underlying32 ?_
          refine cond_no rfl ?_
          refine fieldAddr_by (fa148_0 _) ?_
          refine cond_no rfl ?_
          refine H.load 0 rfl agg32 rfl ?_
          refine cond_no rfl ?_
          refine len_sl Try.underlying32 ?_
          iterate 2 refine cond_no rfl ?_
          refine cond_yes (bne_iff_ne.2 (by omega)) ?_
          refine build148z ?_
          refine H.storeAll 1 rfl size148 rfl (grC_one _ _ _ _ _ _ _) ?_ 
          clear H 
          intro w22 H
          refine H.loadAll 1 rfl agg148 size148 ?_
          refine ⟨rfl, ?_⟩
          exact .inl ⟨hno, rfl, H.keeps⟩
      · have hno : ¬ ((∃ P, RightG q0 N0 r P) ∧ OrdI o ∧ o.length = q0.length) := fun h => ho h.2.1
        iterate 2 refine cond_no rfl ?_
        refine call_fn (c202 o B cb _ (by omega) (hO.same H.keeps)) ?_ 
        rintro _ w6 ⟨rfl, hk⟩ 
        replace H := H.same hk 
        clear hk 
        rw [decide_eq_false ho]
        iterate 2 refine cond_no rfl ?_
        iterate 8 refine cond_yes rfl ?_
        refine build148z ?_
        refine H.storeAll 1 rfl size148 rfl (grC_one _ _ _ _ _ _ _) ?_ 
        clear H 
        intro w18 H
        refine H.loadAll 1 rfl agg148 size148 ?_
        refine ⟨rfl, ?_⟩
        exact .inl ⟨hno, rfl, H.keeps⟩
  clear H
  rintro ⟨⟩ u w2 ⟨⟨⟨P, hP⟩, hord, hlen⟩, H⟩
  replace H : Hp _ _ _ _ _ := H
  have ho8 := hord.le
  have hPl : P.length = N0.length := by have := congrArg List.length hP.nds; rwa [List.length_map] at this
  have hgP := right_graph hP
  obtain rfl : N0 = ndI P := hP.nds.symm
  generalize hsd : setD (natsI q0) (arN P) r = s at hgP
  generalize htd : pairP (invB (natsI q0) (natsI o)) o.length = tot
  have htot : tot ≤ 64 := by rw [← htd]; exact Nat.le_trans (pair_le _ _) (by have := Nat.mul_le_mul ho8 ho8; omega)
  have h0 : FolI s tot o q0 0 P r := ⟨hP.ord, hlen.symm, fun j hj => absurd hj (Nat.not_lt_zero _), hgP, by omega⟩
  have hS0 : SlOf w (fun _ => False) (FolP g2 g4 Bo A o.length co P.length c r []) (.slice Bo o.length co) (.slice A P.length c) q0 P := fun u H => ⟨by rw [hlen]; exact hS.same H.keeps, by rw [hPl]; exact hA.same H.keeps⟩
  replace H : Hp w (fun _ => False) w2 (FolP g2 g4 Bo A o.length co P.length c r []) [] := by rw [hlen, hPl]; exact H
  clear hS hA hPl hgP
  have hc0 : cntF tot o q0 = 0 := by unfold cntF; omega
  refine cut_rule (γ := Unit) _ rfl (fun _ => [(7, .int .i64 0)]) (fun _ w' => Hp w (fun _ => False) w' (FolP g2 g4 Bo A o.length co P.length c r []) []) ⟨(), ⟨rfl, trivial⟩, H⟩ ?_
  clear H
  rintro ⟨⟩ u w3 H
  replace H : Hp _ _ _ _ _ := H
  refine cut_rule (γ := Option Addr × Nat × Option Addr × Nat × List Nd × Int × List Res) _ rfl (fun _ => [(7, .int .i64 (tot : Int))]) (fun (Bq, cq, A, c, N, r, L) w' => (FolI s tot o o o.length N r ∧ SlOf w (fun _ => False) (FolP g2 g4 Bq A o.length cq N.length c r L) (.slice Bq o.length cq) (.slice A N.length c) o N) ∧ Hp w (fun _ => False) w' (FolP g2 g4 Bq A o.length cq N.length c r L) []) ?_ ?_
  · refine len_sl Try.underlying32 ?_
    refine loop_rule (γ := Nat × Nat × List Int × Option Addr × Nat × Option Addr × Nat × List Nd × Int × List Res) _ rfl (fun (i, k, _) => [(30, .int .i64 (i : Int)), (7, .int .i64 (k : Int))])
      (fun (i, k, q, Bq, cq, A, c, N, r, L) w' => (i ≤ o.length ∧ k = cntF tot o q ∧ FolI s tot o q i N r ∧ SlOf w (fun _ => False) (FolP g2 g4 Bq A o.length cq N.length c r L) (.slice Bq o.length cq) (.slice A N.length c) q N) ∧ Hp w (fun _ => False) w' (FolP g2 g4 Bq A o.length cq N.length c r L) [])
      (fun (i, _) => o.length - i) (0, 0, q0, Bo, co, A, c, P, r, []) ⟨rfl, rfl, trivial⟩ ⟨⟨Nat.zero_le _, hc0.symm, h0, hS0⟩, H⟩ ?_
    clear H h0 hS0 hc0
    rintro ⟨i, k, q, Bq, cq, A, c, N, r, L⟩ u w4 ⟨⟨hi, hk, hF, hSl⟩, H⟩
    replace H : Hp _ _ _ _ _ := H
    refine cond_dec (fun h7 => ?_) (fun h7 => ?_)
    · refine cut_rule (γ := List Int × Option Addr × Nat × Option Addr × Nat × List Nd × Int × List Res) _ rfl (fun (q, _) => [(7, .int .i64 (cntF tot o q : Int))])
        (fun (q, Bq, cq, A, c, N, r, L) w' => (FolI s tot o q (i + 1) N r ∧ SlOf w (fun _ => False) (FolP g2 g4 Bq A o.length cq N.length c r L) (.slice Bq o.length cq) (.slice A N.length c) q N) ∧ Hp w (fun _ => False) w' (FolP g2 g4 Bq A o.length cq N.length c r L) []) ?_ ?_
      · have hlen2 := hF.len
        obtain ⟨x, hx⟩ : ∃ x, o[i]? = some x := ⟨_, List.getElem?_eq_getElem (by omega)⟩
        have hxr := hord.rng x (List.mem_of_getElem? hx)
        obtain ⟨p, hp⟩ := List.getElem?_of_mem (hF.ord.mem (x := x) (by omega) (by omega))
        have hpl : p < q.length := (List.getElem?_eq_some_iff.1 hp).1
        have hpi : i ≤ p := Nat.le_of_not_lt fun h => by
          have h1 := hF.ag p h
          rw [hp, ← hx] at h1
          have := (List.getElem?_inj (by omega) hord.nodup).1 h1
          omega
        have hgx : (intsI o)[i]? = some (.int .i64 x) := intsI_at hx
        refine cut_rule (γ := Unit) _ rfl (fun _ => [(8, .int .i64 (i : Int)), (9, .int .i64 x)]) (fun _ w' => Hp w (fun _ => False) w' (FolP g2 g4 Bq A o.length cq N.length c r L) []) ?_ ?_
        · obtain ⟨gB, oB, rfl⟩ := hO.A (by omega)
          refine idxAddr_sl Try.underlying32 (s := 1) size3 i rfl (by omega) (o' := oB + i) (by omega) ?_
          refine H.loadSl (i := i) hO agg3 _ rfl hgx ?_
          exact ⟨(), ⟨rfl, rfl, trivial⟩, H⟩
        clear H
        rintro ⟨⟩ u w5 H
        replace H : Hp _ _ _ _ _ := H
        refine cut_rule (γ := Unit) _ rfl (fun _ => [(10, .int .i64 (i : Int))]) (fun _ w' => Hp w (fun _ => False) w' (FolP g2 g4 Bq A o.length cq N.length c r L) []) ⟨(), ⟨rfl, trivial⟩, H⟩ ?_
        clear H
        rintro ⟨⟩ u w6 H
        replace H : Hp _ _ _ _ _ := H
        refine cut_rule (γ := Unit) _ rfl (fun _ => [(10, .int .i64 (p : Int))]) (fun _ w' => Hp w (fun _ => False) w' (FolP g2 g4 Bq A o.length cq N.length c r L) []) ?_ ?_
        · refine loop_rule (γ := Nat) _ rfl (fun a => [(10, .int .i64 (a : Int))]) (fun a w' => a ≤ p ∧ Hp w (fun _ => False) w' (FolP g2 g4 Bq A o.length cq N.length c r L) []) (fun a => o.length - a) i ⟨rfl, trivial⟩ ⟨hpi, H⟩ ?_
          clear H
          rintro a u w7 ⟨ha, H⟩
          replace H : Hp _ _ _ _ _ := H
          have hsq := (hSl _ H).1
          rw [hlen2] at hsq
          obtain ⟨z, hz⟩ : ∃ z, q[a]? = some z := ⟨_, List.getElem?_eq_getElem (by omega)⟩
          have hgz : (intsI q)[a]? = some (.int .i64 z) := intsI_at hz
          have hiff : z = x ↔ a = p := by
            constructor
            · rintro rfl
              exact (List.getElem?_inj (by omega) hF.ord.nodup).1 (hz.trans hp.symm)
            · rintro rfl
              rw [hz] at hp
              injection hp
          refine fieldAddr_by (fa148_0 _) ?_
          refine H.load 0 rfl agg32 rfl ?_
          obtain ⟨gQ, oQ, hgQ⟩ := hsq.A (by omega)
          subst hgQ
          refine idxAddr_sl Try.underlying32 (s := 1) size3 a rfl (by omega) (o' := oQ + a) (by omega) ?_
          refine (Hp.start0 w7).loadSl (i := a) hsq agg3 _ rfl hgz ?_
          refine cond_bne (fun he => ?_) (fun he => ?_)
          · exact ⟨a + 1, by show o.length - (a + 1) < o.length - a; omega, ⟨up (by omega), trivial⟩, by show a + 1 ≤ p; have : ¬ a = p := fun h => he (hiff.2 h); omega, H⟩
          · have : a = p := hiff.1 he
            subst this
            exact ⟨(), ⟨rfl, trivial⟩, H⟩
        clear H
        rintro ⟨⟩ u w7 H
        replace H : Hp _ _ _ _ _ := H
        refine loop_rule (γ := Nat × List Int × Option Addr × Nat × Option Addr × Nat × List Nd × Int × List Res) _ rfl (fun (a, q, _) => [(10, .int .i64 (a : Int)), (7, .int .i64 (cntF tot o q : Int))])
          (fun (a, q, Bq, cq, A, c, N, r, L) w' => ((i ≤ a ∧ a < o.length) ∧ q[a]? = o[i]? ∧ FolI s tot o q i N r ∧ SlOf w (fun _ => False) (FolP g2 g4 Bq A o.length cq N.length c r L) (.slice Bq o.length cq) (.slice A N.length c) q N) ∧ Hp w (fun _ => False) w' (FolP g2 g4 Bq A o.length cq N.length c r L) [])
          (fun (a, _) => a) (p, q, Bq, cq, A, c, N, r, L) ⟨rfl, by subst hk; rfl, trivial⟩ ⟨⟨⟨hpi, by omega⟩, by rw [hp, hx], hF, hSl⟩, H⟩ ?_
        clear H hF hSl hp hpl hpi hk hlen2
        rintro ⟨a, q, Bq, cq, A, c, N, r, L⟩ u w8 ⟨⟨⟨ha, hal⟩, hqa, hF, hSl⟩, H⟩
        replace H : Hp _ _ _ _ _ := H
        have hlen2 := hF.len
        have hle := hF.le
        refine cond_dec (fun h8 => ?_) (fun h8 => ?_)
        · obtain ⟨b, rfl⟩ : ∃ b, a = b + 1 := ⟨a - 1, by omega⟩
          have hbw : IntKind.i64.wrap (((b + 1 : Nat) : Int) - 1) = (b : Int) := by rw [wrap_i64_in (by omega) (by omega)]; omega
          refine cut_rule (γ := List Int × Option Addr × Nat × Option Addr × Nat × List Nd × Int × List Res) _ rfl (fun (q, _) => [(7, .int .i64 (cntF tot o q : Int))])
            (fun (q, Bq, cq, A, c, N, r, L) w' => (q[b]? = o[i]? ∧ FolI s tot o q i N r ∧ SlOf w (fun _ => False) (FolP g2 g4 Bq A o.length cq N.length c r L) (.slice Bq o.length cq) (.slice A N.length c) q N) ∧ Hp w (fun _ => False) w' (FolP g2 g4 Bq A o.length cq N.length c r L) []) ?_ ?_
          · refine cut_rule (γ := List Int × Option Addr × Nat × Option Addr × Nat × List Nd × Int × List Res) _ rfl (fun _ => [])
              (fun (q2, Bq, cq, A, c, N, r, L) w' => (q2[b]? = o[i]? ∧ cntF tot o q2 = cntF tot o q + 1 ∧ cntF tot o q ≤ 64 ∧ FolI s tot o q2 i N r ∧ SlOf w (fun _ => False) (FolP g2 g4 Bq A o.length cq N.length c r L) (.slice Bq o.length cq) (.slice A N.length c) q2 N) ∧ Hp w (fun _ => False) w' (FolP g2 g4 Bq A o.length cq N.length c r L) []) ?_ ?_
            · obtain ⟨hsq, hsn⟩ := hSl _ H
              have hN3 : (ndI N).length = N.length := List.length_map ..
              have hNf := few_nodes hF.ord hF.gr
              refine H.loadAll 0 rfl agg148 size148 ?_
              have hc := c196 hF.right b (by omega) Bq A cq c (by omega) w8 (by rw [hlen2] at hsq ⊢; exact hsq) (by rw [hN3]; exact hsn)
              rw [hlen2, hN3, ← hbw] at hc
              refine call_fn hc ?_
              clear hc
              rintro _ w9 ⟨vo, vn, N', r', rfl, hgr, hn⟩
              obtain ⟨hF', hq', hc'⟩ := hF.swap hord (show i ≤ b by omega) (by omega) hqa hgr
              replace H := (H.addNew hn).split
              obtain ⟨Bo', co', rfl, _⟩ := own_form (H.get 0 rfl)
              obtain ⟨Bn, cn, rfl, _⟩ := own_form (H.get 1 rfl)
              have e1 : (swL q b).length = o.length := by rw [swL_length]; exact hlen2
              have hN1 := few_nodes hF'.ord hF'.gr
              refine Hp.storeAll H 2 rfl size148 rfl (by rw [e1]; exact grC_one _ _ _ _ _ _ _) ?_
              clear H
              intro w10 H
              rw [e1] at H
              have H : Hp w (fun _ => False) w10 (FolP g2 g4 Bo' Bn o.length co' N'.length cn r' [own 3 1 (.slice Bo' o.length co') o.length (intsI (swL q b)), own 230 3 (.slice Bn N'.length cn) N'.length (flat encI (ndI N'))]) [] := H.sel [2, 3, 0, 1] (by decide) rfl
              refine ⟨(swL q b, Bo', co', Bn, cn, N', r', _), trivial, ⟨hq', ?_, ?_, hF', fun u H => ⟨by rw [e1]; exact own_Sl (H.get 2 rfl), own_Sl (H.get 3 rfl)⟩⟩, H⟩
              · have := hF'.le; show tot - _ = tot - _ + 1; omega
              · show tot - _ ≤ 64; omega
            · clear H hSl hF hqa hle
              rintro ⟨q2, Bq, cq, A, c, N, r, L⟩ u w9 ⟨⟨hq', hcnt, hc64, hF, hSl⟩, H⟩
              replace H : Hp _ _ _ _ _ := H
              exact ⟨(q2, Bq, cq, A, c, N, r, L), ⟨by rw [hcnt]; exact up (by omega), trivial⟩, ⟨hq', hF, hSl⟩, H⟩
          · clear H hSl hF hqa hle hlen2
            rintro ⟨q, Bq, cq, A, c, N, r, L⟩ u w9 ⟨⟨hq', hF, hSl⟩, H⟩
            replace H : Hp _ _ _ _ _ := H
            exact ⟨(b, q, Bq, cq, A, c, N, r, L), by show b < b + 1; omega, ⟨congrArg (Value.int .i64) hbw, rfl, trivial⟩, ⟨⟨by omega, by omega⟩, hq', hF, hSl⟩, H⟩
        · have : a = i := by omega
          subst this
          exact ⟨(q, Bq, cq, A, c, N, r, L), ⟨rfl, trivial⟩, ⟨⟨hF.ord, hF.len, fun j hj => if h : j < a then hF.ag j h else by rw [show j = a by omega]; exact hqa, hF.gr, hF.le⟩, hSl⟩, H⟩
      · clear H hF hSl
        rintro ⟨q, Bq, cq, A, c, N, r, L⟩ u w5 ⟨⟨hF, hSl⟩, H⟩
        exact ⟨(i + 1, cntF tot o q, q, Bq, cq, A, c, N, r, L), by show o.length - (i + 1) < o.length - i; omega, ⟨up (by omega), rfl, trivial⟩, ⟨by show i + 1 ≤ o.length; omega, rfl, hF, hSl⟩, H⟩
    · have : i = o.length := by omega
      subst this
      obtain rfl : q = o := hF.ag.all hF.len
      refine ⟨(Bq, cq, A, c, N, r, L), ⟨?_, trivial⟩, ⟨hF, hSl⟩, H⟩
      subst hk
      show Value.int .i64 (cntF tot q q : Int) = .int .i64 (tot : Int)
      unfold cntF
      rw [inv_none, Nat.sub_zero]
  clear H h0 hS0 hc0
  rintro ⟨Bq, cq, A, c, N, r, L⟩ u w4 ⟨⟨hF, hSl⟩, H⟩
  replace H : Hp _ _ _ _ _ := H
  have hNf := few_nodes hF.ord hF.gr
  have hone : ∀ v ∈ flat encI (ndI N), v.oneCell' = true := flat_one' (ndI N)
  refine draw_orders (fun u => Hp w (fun _ => False) u (blk g2 148 (grC (.slice Bq o.length cq) (.slice A N.length c) r) :: L) [])
    [([0, 2, 3, 6, 11], [1, 4, 5, 7, 8, 0, 2, 3, 6, 9, 11, 10, 12, 13]), ([0, 3, 2, 6, 11], [1, 4, 5, 7, 8, 0, 3, 2, 6, 9, 11, 10, 12, 13]), ([3, 0, 2, 6, 11], [1, 4, 5, 7, 8, 3, 0, 2, 6, 9, 11, 10, 12, 13])] fol (by kernel_rfl) ((H.same (Keeps.drew _)).front 1 rfl).forget ?_
  replace H := H.same (Keeps.drew _)
  generalize w4.drew = w5 at H
  intro x hx
  simp only [List.mem_cons, List.not_mem_nil, or_false] at hx
  rcases hx with rfl | rfl | rfl
  · refine quiet _ (fun w H => fieldAddr_by (fa148_1 _) ⟨rfl, rfl⟩) ?_
    refine quiet _ (fun w H => H.load 0 rfl agg146 rfl ⟨rfl, rfl⟩) ?_
    refine quiet _ (fun w H => fieldAddr_by (fa148_2 _) ⟨rfl, rfl⟩) ?_
    refine quiet _ (fun w H => H.load 0 rfl agg3 rfl ⟨rfl, rfl⟩) ?_
    refine Hp.buildNil H T32 ?_
    clear H
    intro g20 w21 H
    refine ⟨.inl ((H.forget).front 1 rfl).forget, ?_⟩
    refine Hp.appendCopy H 0 T32 rfl (hO.same H.keeps) (intsI_one _) (by omega) (by omega) ?_
    clear H
    intro A1 d1 w22 H
    refine ⟨.inl ((H.forget).front 1 rfl).forget, ?_⟩
    refine Hp.buildNil H T146 ?_
    clear H
    intro g21 w23 H
    refine ⟨.inl ((H.forget.forget).front 1 rfl).forget, ?_⟩
    have hsn := (hSl _ (H.forget.forget)).2
    refine Hp.appendCopy H 0 T146 rfl hsn hone (by omega) (by omega) ?_
    clear H
    intro A2 d2 w24 H
    refine ⟨.inl ((H.forget.forget).front 1 rfl).forget, ?_⟩
    refine quiet _ (fun w H => build148 ⟨rfl, rfl⟩) ?_
    refine H.storeAll 3 rfl size148 rfl (grC_one _ _ _ _ _ _ _) ?_
    clear H
    intro w25 H
    refine ⟨.inl ((H.forget.forget).front 1 rfl).forget, ?_⟩
    refine H.loadAll 3 rfl agg148 size148 ?_
    refine ⟨rfl, ?_⟩
    have H : Hp w (fun _ => False) w25 ([own 3 1 (.slice A1 o.length d1) o.length (intsI o), own 230 3 (.slice A2 N.length d2) N.length (flat encI (ndI N))] ++ []) [] := H.sel [1, 0] (by decide) rfl
    exact .inr ⟨P, hP, hord, hlen, .slice A1 o.length d1, .slice A2 N.length d2, N, r, rfl, by rw [hsd]; exact hF.gr, H.join.out⟩
  · refine quiet _ (fun w H => fieldAddr_by (fa148_1 _) ⟨rfl, rfl⟩) ?_
    refine quiet _ (fun w H => H.load 0 rfl agg146 rfl ⟨rfl, rfl⟩) ?_
    refine quiet _ (fun w H => fieldAddr_by (fa148_2 _) ⟨rfl, rfl⟩) ?_
    refine quiet _ (fun w H => H.load 0 rfl agg3 rfl ⟨rfl, rfl⟩) ?_
    refine Hp.buildNil H T32 ?_
    clear H
    intro g20 w21 H
    refine ⟨.inl ((H.forget).front 1 rfl).forget, ?_⟩
    refine Hp.buildNil H T146 ?_
    clear H
    intro g21 w22 H
    refine ⟨.inl ((H.forget.forget).front 1 rfl).forget, ?_⟩
    refine Hp.appendCopy H 1 T32 rfl (hO.same H.keeps) (intsI_one _) (by omega) (by omega) ?_
    clear H
    intro A1 d1 w23 H
    refine ⟨.inl ((H.forget.forget).front 1 rfl).forget, ?_⟩
    have hsn := (hSl _ (H.forget.forget)).2
    refine Hp.appendCopy H 0 T146 rfl hsn hone (by omega) (by omega) ?_
    clear H
    intro A2 d2 w24 H
    refine ⟨.inl ((H.forget.forget).front 1 rfl).forget, ?_⟩
    refine quiet _ (fun w H => build148 ⟨rfl, rfl⟩) ?_
    refine H.storeAll 3 rfl size148 rfl (grC_one _ _ _ _ _ _ _) ?_
    clear H
    intro w25 H
    refine ⟨.inl ((H.forget.forget).front 1 rfl).forget, ?_⟩
    refine H.loadAll 3 rfl agg148 size148 ?_
    refine ⟨rfl, ?_⟩
    have H : Hp w (fun _ => False) w25 ([own 3 1 (.slice A1 o.length d1) o.length (intsI o), own 230 3 (.slice A2 N.length d2) N.length (flat encI (ndI N))] ++ []) [] := H.sel [1, 0] (by decide) rfl
    exact .inr ⟨P, hP, hord, hlen, .slice A1 o.length d1, .slice A2 N.length d2, N, r, rfl, by rw [hsd]; exact hF.gr, H.join.out⟩
  · refine quiet _ (fun w H => fieldAddr_by (fa148_1 _) ⟨rfl, rfl⟩) ?_
    refine quiet _ (fun w H => H.load 0 rfl agg146 rfl ⟨rfl, rfl⟩) ?_
    refine quiet _ (fun w H => fieldAddr_by (fa148_2 _) ⟨rfl, rfl⟩) ?_
    refine quiet _ (fun w H => H.load 0 rfl agg3 rfl ⟨rfl, rfl⟩) ?_
    refine Hp.buildNil H T146 ?_
    clear H
    intro g21 w21 H
    refine ⟨.inl ((H.forget).front 1 rfl).forget, ?_⟩
    refine Hp.buildNil H T32 ?_
    clear H
    intro g20 w22 H
    refine ⟨.inl ((H.forget.forget).front 1 rfl).forget, ?_⟩
    refine Hp.appendCopy H 0 T32 rfl (hO.same H.keeps) (intsI_one _) (by omega) (by omega) ?_
    clear H
    intro A1 d1 w23 H
    refine ⟨.inl ((H.forget.forget).front 1 rfl).forget, ?_⟩
    have hsn := (hSl _ (H.forget.forget)).2
    refine Hp.appendCopy H 1 T146 rfl hsn hone (by omega) (by omega) ?_
    clear H
    intro A2 d2 w24 H
    refine ⟨.inl ((H.forget.forget).front 1 rfl).forget, ?_⟩
    refine quiet _ (fun w H => build148 ⟨rfl, rfl⟩) ?_
    refine H.storeAll 3 rfl size148 rfl (grC_one _ _ _ _ _ _ _) ?_
    clear H
    intro w25 H
    refine ⟨.inl ((H.forget.forget).front 1 rfl).forget, ?_⟩
    refine H.loadAll 3 rfl agg148 size148 ?_
    refine ⟨rfl, ?_⟩
    have H : Hp w (fun _ => False) w25 ([own 3 1 (.slice A1 o.length d1) o.length (intsI o), own 230 3 (.slice A2 N.length d2) N.length (flat encI (ndI N))] ++ []) [] := H.sel [0, 1] (by decide) rfl
    exact .inr ⟨P, hP, hord, hlen, .slice A1 o.length d1, .slice A2 N.length d2, N, r, rfl, by rw [hsd]; exact hF.gr, H.join.out⟩
end Go.Proofs.Ytjebpngdinbckaa
end

section
/- Graphs: SwapFollows. -/
namespace Go.Proofs.Ytjebpngdinbckaa
open Go.Dk
attribute [local irreducible] IntKind.wrap

theorem ent30 : enters Try.prog 30 = true := by kernel_rfl
theorem law30_m (q : List Int) (N : List I3) (Bq A : Option Addr) (cq c : Nat) (r : Int) (o : List Int) (B : Option Addr) (cb : Nat) (w : World) (hol : o.length ≤ 9223372036854775807) (hS : Sl w (.slice Bq q.length cq) 1 q.length (intsI q)) (hA : Sl w (.slice A N.length c) 3 N.length (flat encI N)) (hO : Sl w (.slice B o.length cb) 1 o.length (intsI o)) :
    Fun Try.prog 30 [grV (.slice Bq q.length cq) (.slice A N.length c) r, .slice B o.length cb] w fun v w' => v = .bool true ∧ Same w w' := by
  refine fun_of_W (N := 78) Try.func30 ent30 rfl rfl rfl (by simp) ?_
  have H := Hp.start0 w
  refine cut_rule (γ := Nat) _ rfl (fun g2 => [(2, .pointer (some ⟨g2, 0, none⟩)), (4, .bool false)]) (fun g2 w' => Hp w (fun _ => False) w' [blk g2 148 (grC (.slice Bq q.length cq) (.slice A N.length c) r)] []) ?_ ?_
  · refine H.box 148 _ (cs := grC (.slice Bq q.length cq) (.slice A N.length c) r) rfl ?_
    clear H
    intro g1 w1 H
    exact ⟨g1, ⟨rfl, rfl, trivial⟩, H⟩
  clear H
  rintro g2 u w1 H
  replace H : Hp _ _ _ _ _ := H
  refine cut_rule (γ := Unit) _ rfl (fun _ => []) (fun _ w' => (q.length ≤ 20 ∧ N.length ≤ 60 ∧ o.length ≤ 20) ∧ Hp w (fun _ => False) w' [blk g2 148 (grC (.slice Bq q.length cq) (.slice A N.length c) r)] []) ?_ ?_
  · refine H.loadAll 0 rfl agg148 size148 ?_
    refine call_fn (c130 Bq A q.length cq N.length c r _) ?_
    rintro _ w2 ⟨rfl, hk⟩
    replace H := H.same hk
    clear hk
    by_cases h : 20 < q.length ∨ 60 < N.length
    · rw [decide_eq_true h]
      iterate 5 refine cond_yes rfl ?_
      refine call_fn (c131 _) ?_ 
      rintro _ w8 ⟨rfl, hk⟩ 
      replace H := H.same hk 
      clear hk
      exact ⟨rfl, H.keeps⟩
    · rw [decide_eq_false h]
      by_cases h2 : 20 < o.length
      · have h3 : (20 : Int) < o.length := by omega
        iterate 2 refine cond_no rfl ?_
        refine len_sl Try.underlying32 ?_
        iterate 2 refine cond_no rfl ?_
        refine cond_yes (decide_eq_true (by assumption)) ?_
        refine call_fn (c131 _) ?_ 
        rintro _ w10 ⟨rfl, hk⟩ 
        replace H := H.same hk 
        clear hk
        exact ⟨rfl, H.keeps⟩
      · have h3 : ¬ (20 : Int) < o.length := by omega
        iterate 2 refine cond_no rfl ?_
        refine len_sl Try.underlying32 ?_
        iterate 2 refine cond_no rfl ?_
        refine cond_no (decide_eq_false (by assumption)) ?_
        exact ⟨(), trivial, by omega, H⟩
  clear H
  rintro ⟨⟩ u w2 ⟨⟨h20, h60, ho20⟩, H⟩
  replace H : Hp _ _ _ _ _ := H
  by_cases hR : (∃ P, RightG q N r P) ∧ OrdI o ∧ o.length = q.length
  · obtain ⟨⟨P, hP⟩, hord, hlen⟩ := hR
    have hex : ∃ P, RightG q N r P := ⟨P, hP⟩
    have hq := hP.ord
    have ho8 := hord.le
    have hPl : P.length = N.length := by have := congrArg List.length hP.nds; rwa [List.length_map] at this
    have hlv : ∀ (i : Nat) (d : Nd), P[i]? = some d → d.l < q.length := fun i d hd => hP.inv.lt i d (by rw [slot_arN]; exact hd)
    have hr0 := hP.root0
    have hr1 := hP.root1
    have hs := says_eq hP
    generalize hsd : setD (natsI q) (arN P) r = s at hs
    have hs256 : s < 2 ^ 256 := by rw [← hsd]; exact setOf_lt _
    refine cut_rule (γ := Nat × Option Addr × Nat × Option Addr × Nat × List Nd × Int) _ rfl (fun (g5, _) => [(5, .pointer (some ⟨g5, 0, none⟩)), (6, .int .i64 ((pairP (invB (natsI q) (natsI o)) o.length : Nat) : Int)), (7, .int .i64 0)]) (fun (g5, B1, c1, A1, c2, N1, r1) w' => IsGraph (FnS (natsI o) s) N1 r1 ∧ Hp w (fun _ => False) w' [blk g5 148 (grC (.slice B1 o.length c1) (.slice A1 N1.length c2) r1), own 3 1 (.slice B1 o.length c1) o.length (intsI o), own 230 3 (.slice A1 N1.length c2) N1.length (flat encI (ndI N1)), blk g2 148 (grC (.slice Bq q.length cq) (.slice A N.length c) r)] []) ?_ ?_
    · refine H.loadAll 0 rfl agg148 size148 ?_
      refine call_fn (c140 q N Bq A cq c r o B cb (by omega) (by omega) (by omega) w2 (hS.same H.keeps) (hA.same H.keeps) (hO.same H.keeps)) ?_
      rintro _ w3 (⟨h, _⟩ | ⟨P2, hP2, _, _, vo, vn, N1, r1, rfl, hgr, hn⟩)
      · exact absurd ⟨hex, hord, hlen⟩ h
      · obtain rfl : P2 = P := ndI_inj (hP2.nds.trans hP.nds.symm)
        rw [hsd] at hgr
        replace H := (H.addNew hn).split
        obtain ⟨B1, c1, rfl, _⟩ := own_form (H.get 0 rfl)
        obtain ⟨A1, c2, rfl, _⟩ := own_form (H.get 1 rfl)
        refine Hp.alloc H 148 (cs := grC (.slice none 0 0) (.slice none 0 0) 0) zero148 rfl ?_
        clear H
        intro g5 w4 H
        refine H.storeAll 0 rfl size148 rfl (grC_one _ _ _ _ _ _ _) ?_
        clear H
        intro w5 H
        exact ⟨(g5, B1, c1, A1, c2, N1, r1), ⟨rfl, rfl, rfl, trivial⟩, hgr, H⟩
    clear H
    rintro ⟨g5, B1, c1, A1, c2, N1, r1⟩ u w3 ⟨hgr, H⟩
    replace H : Hp _ _ _ _ _ := H
    have hN1 := few_nodes hord hgr
    have hN13 : (ndI N1).length = N1.length := List.length_map ..
    refine cut_rule (γ := Unit) _ rfl (fun _ => []) (fun _ w' => Hp w (fun _ => False) w' [blk g5 148 (grC (.slice B1 o.length c1) (.slice A1 N1.length c2) r1), own 3 1 (.slice B1 o.length c1) o.length (intsI o), own 230 3 (.slice A1 N1.length c2) N1.length (flat encI (ndI N1)), blk g2 148 (grC (.slice Bq q.length cq) (.slice A N.length c) r)] []) ?_ ?_
    · refine H.loadAll 3 rfl agg148 size148 ?_
      refine call_fn (c134 N Bq A q.length cq c r (by omega) _ (hA.same H.keeps)) ?_
      rintro _ w6 ⟨D, d, rfl, hn⟩
      replace H := H.addNew hn
      clear hn
      refine call_fn (c133 q N Bq D cq d r (by omega) (by omega) w6 (hS.same H.keeps) (own_Sl (H.get 0 rfl))) ?_
      rintro _ w7 ⟨b, rfl, hb, hk⟩
      replace H := H.same hk
      clear hk
      obtain rfl := hb.2 hex
      replace H := H.forget
      iterate 2 refine cond_no rfl ?_
      refine call_fn (c101 o B cb _ hol (hO.same H.keeps)) ?_ 
      rintro _ w9 ⟨rfl, hk⟩ 
      replace H := H.same hk 
      clear hk 
      rw [(ordB_iff o).2 hord]
      iterate 4 refine cond_no rfl ?_
      refine len_sl Try.underlying32 ?_
      refine cond_no rfl ?_
      refine fieldAddr_by (fa148_0 _) ?_
      refine cond_no rfl ?_
      refine H.load 3 rfl agg32 rfl ?_
      refine cond_no rfl ?_
      refine len_sl Try.underlying32 ?_
      iterate 2 refine cond_no rfl ?_
      refine cond_no (bne_eq_false_iff_eq.2 (by omega)) ?_
      exact ⟨(), trivial, H⟩
    clear H
    rintro ⟨⟩ u w4 H
    replace H : Hp _ _ _ _ _ := H
    refine H.draw fol (by kernel_rfl) ?_
    clear H
    intro w5 H
    refine quiet _ (fun w H => H.loadAll 0 rfl agg148 size148 ⟨rfl, rfl⟩) ?_
    have hc := c134 (ndI N1) B1 A1 o.length c1 c2 r1 (by omega) w5 (by rw [hN13]; exact own_Sl (H.get 2 rfl))
    rw [hN13] at hc
    refine call_fn hc ?_
    clear hc
    rintro _ w8 ⟨E, e, rfl, hn⟩
    replace H := H.addNew hn
    clear hn
    refine ⟨.inl H.forget, ?_⟩
    refine quiet _ (fun w H => H.loadAll 3 rfl agg148 size148 ⟨rfl, rfl⟩) ?_
    refine call_fn (c134 N Bq A q.length cq c r (by omega) _ (hA.same H.keeps)) ?_
    rintro _ w9 ⟨D, d, rfl, hn⟩
    replace H := H.addNew hn
    clear hn
    refine ⟨.inl H.forget.forget, ?_⟩
    have hc := c137 hq hP.nds hP.topo hlv (by omega) Bq D cq d r.toNat (by omega) w9 (hS.same H.keeps) (own_Sl (H.get 0 rfl))
    rw [show ((r.toNat : Nat) : Int) = r by omega, hs] at hc
    refine call_fn hc ?_
    clear hc
    rintro _ w10 ⟨rfl, hk⟩
    replace H := H.same hk
    clear hk
    refine ⟨.inl H.forget.forget, ?_⟩
    refine call_fn (c136 hord s hs256 B cb w10 (hO.same H.keeps)) ?_
    rintro _ w11 ⟨A2, a2, N2, r2, rfl, hgr2, hn⟩
    obtain ⟨e1, e2⟩ := graph_det (by omega) (FnS_low' hord s) hgr hgr2
    subst e1; subst e2
    replace H := H.addNew hn
    clear hn
    refine ⟨.inl H.forget.forget.forget, ?_⟩
    have hc := c135 o o B1 B c1 cb (ndI N1) (ndI N1) E A2 e a2 r1 r1 w11 (by omega) (by omega) (by omega) (by omega) (own_Sl (H.get 4 rfl)) (hO.same H.keeps) (by rw [hN13]; exact own_Sl (H.get 2 rfl)) (by rw [hN13]; exact own_Sl (H.get 0 rfl))
    rw [hN13, decide_eq_true (⟨rfl, rfl, rfl⟩ : o = o ∧ ndI N1 = ndI N1 ∧ r1 = r1)] at hc
    refine call_fn hc ?_
    clear hc
    rintro _ w12 ⟨rfl, hk⟩
    replace H := H.same hk
    clear hk
    refine ⟨.inl H.forget.forget.forget, ?_⟩
    iterate 2 refine cond_yes rfl ?_
    refine quiet _ (fun w H => fieldAddr_by (fa148_0 _) ⟨rfl, rfl⟩) ?_
    refine cond_yes rfl ?_
    refine quiet _ (fun w H => H.load 3 rfl agg32 rfl ⟨rfl, rfl⟩) ?_
    iterate 2 refine cond_yes rfl ?_
    have hc : Fun Try.prog 141 [.slice Bq q.length cq, .slice B o.length cb] w12 fun v w' => v = .int .i64 ((pairP (invB (natsI q) (natsI o)) o.length : Nat) : Int) ∧ Same w12 w' := by
      rw [hlen]
      exact c141 hq hord hlen Bq B cq cb w12 (hS.same H.keeps) (by rw [← hlen]; exact hO.same H.keeps)
    refine call_fn hc ?_
    clear hc
    rintro _ w13 ⟨rfl, hk⟩
    replace H := H.same hk
    clear hk
    refine ⟨.inl H.forget.forget.forget, ?_⟩
    iterate 2 refine cond_yes rfl ?_
    iterate 4 refine cond_yes (beq_self_eq_true _) ?_
    refine call_fn (c131 _) ?_ 
    rintro _ w18 ⟨rfl, hk⟩ 
    replace H := H.same hk 
    clear hk 
    refine ⟨.inl H.forget.forget.forget, ?_⟩
    refine cond_yes (beq_self_eq_true _) ?_
    exact ⟨rfl, H.keeps⟩
  · refine cut_rule (γ := Nat) _ rfl (fun g5 => [(5, .pointer (some ⟨g5, 0, none⟩)), (6, .int .i64 0), (7, .int .i64 1)]) (fun g5 w' => Hp w (fun _ => False) w' [blk g5 148 (grC (.slice none 0 0) (.slice none 0 0) 0), blk g2 148 (grC (.slice Bq q.length cq) (.slice A N.length c) r)] []) ?_ ?_
    · refine H.loadAll 0 rfl agg148 size148 ?_
      refine call_fn (c140 q N Bq A cq c r o B cb (by omega) (by omega) (by omega) w2 (hS.same H.keeps) (hA.same H.keeps) (hO.same H.keeps)) ?_
      rintro _ w3 (⟨_, rfl, hk⟩ | ⟨P2, hP2, h1, h2, _⟩)
      · replace H := H.same hk
        clear hk
        refine Hp.alloc H 148 (cs := grC (.slice none 0 0) (.slice none 0 0) 0) zero148 rfl ?_
        clear H
        intro g5 w4 H
        refine H.storeAll 0 rfl size148 rfl (grC_one _ _ _ _ _ _ _) ?_
        clear H
        intro w5 H
        exact ⟨g5, ⟨rfl, rfl, rfl, trivial⟩, H⟩
      · exact absurd ⟨⟨P2, hP2⟩, h1, h2⟩ hR
    clear H
    rintro g5 u w3 H
    replace H : Hp _ _ _ _ _ := H
    refine H.loadAll 1 rfl agg148 size148 ?_
    refine call_fn (c134 N Bq A q.length cq c r (by omega) _ (hA.same H.keeps)) ?_
    rintro _ w6 ⟨D, d, rfl, hn⟩
    replace H := H.addNew hn
    clear hn
    refine call_fn (c133 q N Bq D cq d r (by omega) (by omega) w6 (hS.same H.keeps) (own_Sl (H.get 0 rfl))) ?_
    rintro _ w7 ⟨b, rfl, hb, hk⟩
    replace H := H.same hk
    clear hk
    replace H := H.forget
    cases b with
    | false => iterate 12 refine cond_yes rfl ?_
               refine H.loadAll 0 rfl agg148 size148 ?_
               refine call_fn (c134 [] none none 0 0 0 0 (by decide) _ (sl_nil232 _)) ?_ 
               rintro _ w21 ⟨D, d, rfl, hn⟩ 
               replace H := H.addNew hn 
               clear hn
               refine build155z ?_
               refine call_fn (c135 [] [] none none 0 0 [] [] D none d 0 0 0 _ (by decide) (by decide) (by decide) (by decide) (sl_nil1 _) (sl_nil1 _) (own_Sl (H.get 0 rfl)) (sl_nil232 _)) ?_ 
               rintro _ w23 ⟨rfl, hk⟩ 
               replace H := H.same hk 
               clear hk
               iterate 7 refine cond_yes rfl ?_
               refine call_fn (c131 _) ?_ 
               rintro _ w31 ⟨rfl, hk⟩ 
               replace H := H.same hk 
               clear hk
               refine cond_yes rfl ?_
               exact ⟨rfl, H.keeps⟩
    | true =>
      have hex := hb.1 rfl
      by_cases ho : OrdI o
      · have hno : ¬ o.length = q.length := fun h => hR ⟨hex, ho, h⟩
        iterate 2 refine cond_no rfl ?_
        refine call_fn (c101 o B cb _ hol (hO.same H.keeps)) ?_ 
        rintro _ w9 ⟨rfl, hk⟩ 
        replace H := H.same hk 
        clear hk 
        rw [(ordB_iff o).2 ho]
        iterate 4 refine cond_no rfl ?_
        refine len_sl Try.underlying32 ?_
        refine cond_no rfl ?_
        refine fieldAddr_by (fa148_0 _) ?_
        refine cond_no rfl ?_
        refine H.load 1 rfl agg32 rfl ?_
        refine cond_no rfl ?_
        refine len_sl Try.underlying32 ?_
        iterate 2 refine cond_no rfl ?_
        refine cond_yes (bne_iff_ne.2 (by omega)) ?_
        refine H.loadAll 0 rfl agg148 size148 ?_
        refine call_fn (c134 [] none none 0 0 0 0 (by decide) _ (sl_nil232 _)) ?_ 
        rintro _ w26 ⟨D, d, rfl, hn⟩ 
        replace H := H.addNew hn 
        clear hn
        refine build155z ?_
        refine call_fn (c135 [] [] none none 0 0 [] [] D none d 0 0 0 _ (by decide) (by decide) (by decide) (by decide) (sl_nil1 _) (sl_nil1 _) (own_Sl (H.get 0 rfl)) (sl_nil232 _)) ?_ 
        rintro _ w28 ⟨rfl, hk⟩ 
        replace H := H.same hk 
        clear hk
        iterate 7 refine cond_yes rfl ?_
        refine call_fn (c131 _) ?_ 
        rintro _ w36 ⟨rfl, hk⟩ 
        replace H := H.same hk 
        clear hk
        refine cond_yes rfl ?_
        exact ⟨rfl, H.keeps⟩
      · have hof : orderB o = false := by
          cases h : orderB o with
          | false => rfl
          | true => exact absurd ((ordB_iff o).1 h) ho
        iterate 2 refine cond_no rfl ?_
        refine call_fn (c101 o B cb _ hol (hO.same H.keeps)) ?_ 
        rintro _ w9 ⟨rfl, hk⟩ 
        replace H := H.same hk 
        clear hk 
        rw [hof]
        iterate 2 refine cond_no rfl ?_
        iterate 8 refine cond_yes rfl ?_
        refine H.loadAll 0 rfl agg148 size148 ?_
        refine call_fn (c134 [] none none 0 0 0 0 (by decide) _ (sl_nil232 _)) ?_ 
        rintro _ w22 ⟨D, d, rfl, hn⟩ 
        replace H := H.addNew hn 
        clear hn
        refine build155z ?_
        refine call_fn (c135 [] [] none none 0 0 [] [] D none d 0 0 0 _ (by decide) (by decide) (by decide) (by decide) (sl_nil1 _) (sl_nil1 _) (own_Sl (H.get 0 rfl)) (sl_nil232 _)) ?_ 
        rintro _ w24 ⟨rfl, hk⟩ 
        replace H := H.same hk 
        clear hk
        iterate 7 refine cond_yes rfl ?_
        refine call_fn (c131 _) ?_ 
        rintro _ w32 ⟨rfl, hk⟩ 
        replace H := H.same hk 
        clear hk
        refine cond_yes rfl ?_
        exact ⟨rfl, H.keeps⟩
theorem law30 (vo vn : Value) (r : Int) (v : Value) (w : World) {q : List Int} {N : List I3} (hS : IntsAt w vo q) (hA : ∃ B c, vn = .slice B N.length c ∧ N.length ≤ 9223372036854775807 ∧ Sl w (.slice B N.length c) 3 N.length (flat encI N)) {o : List Int} (hO : IntsAt w v o) :
    Fun Try.prog 30 [grV vo vn r, v] w fun v w' => v = .bool true ∧ Same w w' := by
  obtain ⟨Bo, co, rfl, _, _, hS⟩ := hS
  obtain ⟨A, c, rfl, _, hA⟩ := hA
  obtain ⟨B, cb, rfl, hol, _, hO⟩ := hO
  exact law30_m q N Bo A co c r o B cb w hol hS hA hO
end Go.Proofs.Ytjebpngdinbckaa
end

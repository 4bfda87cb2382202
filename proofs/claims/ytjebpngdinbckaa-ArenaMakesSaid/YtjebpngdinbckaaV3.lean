import Derived.Test.YtjebpngdinbckaaV2
/- Arenas: Make. -/
namespace Go.Proofs.Ytjebpngdinbckaa
open Go.Dk
attribute [local irreducible] IntKind.wrap

theorem arR_lt {g r : Nat} {sv : Value} {room : Int} {A : Ar} {w : World} (h : (arR g r sv room A).ok w) : ∀ x, (arR g r sv room A).foot x → x < w.heap.size := fun x ⟨q, hq, hx⟩ => h.2.1 q hq x hx
theorem arR_same {g r : Nat} {sv : Value} {room : Int} {A : Ar} {w w' : World} (h : (arR g r sv room A).ok w) (hk : Same w w') : (arR g r sv room A).ok w' :=
  (arR g r sv room A).stable w w' (fun x hx => hk.old x (arR_lt h x hx) id) h
theorem arR_turn {g r : Nat} {sv : Value} {room : Int} {A : Ar} {w w' : World} (h : (arR g r sv room A).ok w) (hk : Same w w') : Turn w w' (arR g r sv room A) (arR g r sv room A) :=
  (Turn.refl h (arR_lt h)).same hk
/-- An arena opened, to be turned. -/
theorem arR_own {g r : Nat} {sv : Value} {room : Int} {A : Ar} {w : World} (h : (arR g r sv room A).ok w) :
    ∃ N B c l, ars N = A ∧ sv = .slice B N.length c ∧ IdsOk l A ∧ (akeys l).Nodup ∧
      Hp w (arR g r sv room A).foot w [blk g 199 (arV B N.length c room r), own 202 3 (.slice B N.length c) N.length (flat encS N), mapR kaN vbN r l] [] := by
  obtain ⟨N, B, c, l, rfl, rfl, hl, hnd, _⟩ := arR_open h
  have h' := h
  obtain ⟨h1, h2, h3⟩ := h'
  have H := Hp.own1 h (arR_lt h)
  have H := Hp.split (Ls := arP g r (.slice B N.length c) room (ars N)) (L := []) H
  have H : Hp w (arR g r (.slice B N.length c) room (ars N)).foot w (nodesR (.slice B N.length c) (ars N) :: blk g 199 (arV B N.length c room r) :: idsR r (ars N) :: []) [] := H.front 1 rfl
  obtain ⟨N', hN', hown⟩ := H.ok _ (.head _)
  have hlen : N'.length = N.length := by rw [← ars_length, hN', ars_length]
  rw [hlen] at hown
  have H := H.re (r' := own 202 3 (.slice B N.length c) N.length (flat encS N')) (fun _ => hown) (fun g hg => hg)
  have H : Hp w (arR g r (.slice B N.length c) room (ars N)).foot w (idsR r (ars N) :: own 202 3 (.slice B N.length c) N.length (flat encS N') :: blk g 199 (arV B N.length c room r) :: []) [] := H.front 2 rfl
  obtain ⟨l', hl', hmap⟩ := H.ok _ (.head _)
  have hnd' : (akeys l').Nodup := by
    obtain ⟨es, clock, _, hs, he⟩ := hmap
    exact mapR_keys W196.inj hs he
  have H := H.re (r' := mapR kaN vbN r l') (fun _ => hmap) (fun g hg => hg)
  have H : Hp w (arR g r (.slice B N.length c) room (ars N)).foot w (own 202 3 (.slice B N.length c) N.length (flat encS N') :: mapR kaN vbN r l' :: blk g 199 (arV B N.length c room r) :: []) [] := H.front 1 rfl
  have H : Hp w (arR g r (.slice B N.length c) room (ars N)).foot w (blk g 199 (arV B N.length c room r) :: own 202 3 (.slice B N.length c) N.length (flat encS N') :: mapR kaN vbN r l' :: []) [] := H.front 2 rfl
  exact ⟨N', B, c, l', hN', by rw [hlen], hl', hnd', by rw [hlen]; exact H⟩
theorem lookup_hit {α β : Type} [DecidableEq α] {ka : α → Value} {vb : β → Value} {z : Value} {P : Program} {t kt et : TypeId} {l : List (α × β)} {r : Nat} {w : World} {kk : Value → World → Prop} (hr : (mapR ka vb r l).ok w) (W : MapW P t kt et ka vb z) (a : α) {b : β}
    (hg : aget l a = some b) (h : kk (.tuple #[vb b, .bool true]) w) : lookupK P t (.map (some r)) (ka a) true w kk :=
  lookupOk_at hr W a (fun b' hb' => by rw [hg] at hb'; cases hb'; exact h) (fun hn => by rw [hg] at hn; cases hn)
theorem lookup_miss {α β : Type} [DecidableEq α] {ka : α → Value} {vb : β → Value} {z : Value} {P : Program} {t kt et : TypeId} {l : List (α × β)} {r : Nat} {w : World} {kk : Value → World → Prop} (hr : (mapR ka vb r l).ok w) (W : MapW P t kt et ka vb z) (a : α)
    (hg : aget l a = none) (h : kk (.tuple #[z, .bool false]) w) : lookupK P t (.map (some r)) (ka a) true w kk :=
  lookupOk_at hr W a (fun b' hb' => by rw [hg] at hb'; cases hb') (fun _ => h)
theorem mapSet_by {P : Program} {t : TypeId} {m i x x' : Value} {w : World} {k : Value → World → Prop} (hx : x = x') (h : mapSetK P t m i x' w k) : mapSetK P t m i x w k := by subst hx; exact h
theorem build202 {a b c : Int} {w : World} {kk : Value → World → Prop} (h : kk (k3 a b c) w) : buildK Try.prog 202 [(0, .int .i64 a), (1, .int .i64 b), (2, .int .i64 c)] w kk :=
  build_by (fun w => by kernel_rfl) h
theorem lvlA_nonneg {A : Ar} {id : Int} (h : 0 ≤ lvlA A id) : 0 ≤ id := by
  rcases lvlA_node h with rfl | rfl | ⟨i, _, rfl, _⟩ <;> omega
theorem ent68 : enters Try.prog 68 = true := by kernel_rfl
theorem c68_nil (l lo hi : Int) (w : World) : Fun Try.prog 68 [.pointer none, .int .i64 l, .int .i64 lo, .int .i64 hi] w fun v w' => v = .tuple #[.int .i64 0, .int .i64 1] ∧ Same w w' := by
  refine fun_of_W (N := 112) Try.func68 ent68 rfl rfl rfl (by simp) ?_
  have H := Hp.start0 w
  refine bin_eql59z ?_
  iterate 16 refine cond_yes rfl ?_
  exact ⟨rfl, H.keeps⟩
theorem c68_b {g r : Nat} {sv : Value} {room : Int} {A : Ar} (l lo hi : Int) (hlo : lo < 9223372036854775808) (hhi : hi < 9223372036854775808) (hb : l < 0 ∨ lvlA A lo ≤ l ∨ lvlA A hi ≤ l) (w : World) (h : (arR g r sv room A).ok w) :
    Fun Try.prog 68 [.pointer (some ⟨g, 0, none⟩), .int .i64 l, .int .i64 lo, .int .i64 hi] w fun v w' => v = .tuple #[.int .i64 0, .int .i64 1] ∧ Same w w' := by
  refine fun_of_W (N := 112) Try.func68 ent68 rfl rfl rfl (by simp) ?_
  have H := Hp.start0 w
  refine bin_eql59 ?_
  iterate 3 refine cond_no rfl ?_
  refine cond_dec (fun h5 => ?_) (fun h5 => ?_)
  · refine cond_yes (decide_eq_true (by assumption)) ?_
    iterate 4 refine cond_yes (decide_eq_true (by assumption)) ?_
    iterate 7 refine cond_yes rfl ?_
    exact ⟨rfl, H.keeps⟩
  · refine cond_no (decide_eq_false (by assumption)) ?_
    refine cond_no (decide_eq_false (by assumption)) ?_
    refine call_fn (c166 _ hlo _ h) ?_
    rintro _ w21 ⟨rfl, hk⟩
    replace h := arR_same h hk
    replace H := H.same hk
    clear hk
    iterate 3 refine cond_no (decide_eq_false (by assumption)) ?_
    refine cond_dec (fun h25 => ?_) (fun h25 => ?_)
    · refine cond_yes (decide_eq_true (by assumption)) ?_
      iterate 4 refine cond_yes (decide_eq_true (by assumption)) ?_
      refine cond_yes rfl ?_
      exact ⟨rfl, H.keeps⟩
    · refine cond_no (decide_eq_false (by assumption)) ?_
      refine cond_no (decide_eq_false (by assumption)) ?_
      refine call_fn (c166 _ hhi _ h) ?_
      rintro _ w35 ⟨rfl, hk⟩
      replace h := arR_same h hk
      replace H := H.same hk
      clear hk
      iterate 3 refine cond_no (decide_eq_false (by assumption)) ?_
      refine cond_yes (decide_eq_true (by omega)) ?_
      exact ⟨rfl, H.keeps⟩
theorem c68_f {g r : Nat} {sv : Value} {room : Int} {A : Ar} (n : Nd) (hlo : (n.lo : Int) < 9223372036854775808) (hhi : (n.hi : Int) < 9223372036854775808) (h1 : (n.l : Int) < lvlA A n.lo) (h2 : (n.l : Int) < lvlA A n.hi) (i : Nat) (hf : findA A n = some i) (w : World) (h : (arR g r sv room A).ok w) :
    Fun Try.prog 68 [.pointer (some ⟨g, 0, none⟩), .int .i64 n.l, .int .i64 n.lo, .int .i64 n.hi] w fun v w' => v = .tuple #[.int .i64 ((i + 2 : Nat) : Int), .int .i64 0] ∧ Same w w' := by
  refine fun_of_W (N := 112) Try.func68 ent68 rfl rfl rfl (by simp) ?_
  have h' := h
  obtain ⟨N, B, c, l, rfl, rfl, hl, hnd, H⟩ := arR_open h'
  have hg : aget l n = some (i + 2) := by rw [hl.get, hf]; rfl
  clear h'
  refine bin_eql59 ?_
  iterate 6 refine cond_no rfl ?_
  refine call_fn (c166 _ hlo _ h) ?_
  rintro _ w10 ⟨rfl, hk⟩
  replace h := arR_same h hk
  replace H := H.same hk
  clear hk
  iterate 3 refine cond_no rfl ?_
  iterate 3 refine cond_no (decide_eq_false (by omega)) ?_
  refine call_fn (c166 _ hhi _ h) ?_
  rintro _ w17 ⟨rfl, hk⟩
  replace h := arR_same h hk
  replace H := H.same hk
  clear hk
  iterate 4 refine cond_no (decide_eq_false (by omega)) ?_
  refine build202 ?_
  refine H.alloc 202 zero202 rfl ?_
  clear H
  intro g23 w23 H
  refine H.storeAll 0 rfl size202 rfl (fun v hv => encS_one (.inl n) v hv) ?_
  clear H
  intro w24 H
  refine H.draw fol (by kernel_rfl) ?_
  clear H
  intro w25 H
  refine quiet _ (fun w H => fieldAddr_by (fa199_2 _) ⟨rfl, rfl⟩) ?_
  refine quiet _ (fun w H => ld_blk (H.ro 0 rfl) agg196 rfl ⟨rfl, rfl⟩) ?_
  refine quiet _ (fun w H => H.loadAll 0 rfl agg202 size202 ⟨rfl, rfl⟩) ?_
  refine quiet _ (fun w H => lookup_hit (H.ro 2 rfl) W196 n hg ⟨rfl, rfl⟩) ?_
  refine cond_yes rfl ?_
  exact ⟨rfl, H.keeps⟩
theorem c68_r {g r : Nat} {sv : Value} {room : Int} {A : Ar} (n : Nd) (hlo : (n.lo : Int) < 9223372036854775808) (hhi : (n.hi : Int) < 9223372036854775808) (h1 : (n.l : Int) < lvlA A n.lo) (h2 : (n.l : Int) < lvlA A n.hi) (hf : findA A n = none) (hfull : room ≤ (liveA A : Int)) (w : World) (h : (arR g r sv room A).ok w) :
    Fun Try.prog 68 [.pointer (some ⟨g, 0, none⟩), .int .i64 n.l, .int .i64 n.lo, .int .i64 n.hi] w fun v w' => v = .tuple #[.int .i64 0, .int .i64 5] ∧ Same w w' := by
  refine fun_of_W (N := 112) Try.func68 ent68 rfl rfl rfl (by simp) ?_
  have h' := h
  obtain ⟨N, B, c, l, rfl, rfl, hl, hnd, H⟩ := arR_open h'
  have hg : aget l n = none := by rw [hl.get, hf]; rfl
  have hlen := hl.len
  clear h'
  refine bin_eql59 ?_
  iterate 6 refine cond_no rfl ?_
  refine call_fn (c166 _ hlo _ h) ?_
  rintro _ w10 ⟨rfl, hk⟩
  replace h := arR_same h hk
  replace H := H.same hk
  clear hk
  iterate 3 refine cond_no rfl ?_
  iterate 3 refine cond_no (decide_eq_false (by omega)) ?_
  refine call_fn (c166 _ hhi _ h) ?_
  rintro _ w17 ⟨rfl, hk⟩
  replace h := arR_same h hk
  replace H := H.same hk
  clear hk
  iterate 4 refine cond_no (decide_eq_false (by omega)) ?_
  refine build202 ?_
  refine H.alloc 202 zero202 rfl ?_
  clear H
  intro g23 w23 H
  refine H.storeAll 0 rfl size202 rfl (fun v hv => encS_one (.inl n) v hv) ?_
  clear H
  intro w24 H
  refine H.draw fol (by kernel_rfl) ?_
  clear H
  intro w25 H
  refine quiet _ (fun w H => fieldAddr_by (fa199_2 _) ⟨rfl, rfl⟩) ?_
  refine quiet _ (fun w H => ld_blk (H.ro 0 rfl) agg196 rfl ⟨rfl, rfl⟩) ?_
  refine quiet _ (fun w H => H.loadAll 0 rfl agg202 size202 ⟨rfl, rfl⟩) ?_
  refine quiet _ (fun w H => lookup_miss (H.ro 2 rfl) W196 n hg ⟨rfl, rfl⟩) ?_
  refine cond_no rfl ?_
  refine H.draw fol (by kernel_rfl) ?_
  clear H
  intro w31 H
  refine quiet _ (fun w H => fieldAddr_by (fa199_2 _) ⟨rfl, rfl⟩) ?_
  refine quiet _ (fun w H => ld_blk (H.ro 0 rfl) agg196 rfl ⟨rfl, rfl⟩) ?_
  refine quiet _ (fun w H => lenMap_at (H.ro 2 rfl) W196 ⟨rfl, rfl⟩) ?_
  refine quiet _ (fun w H => fieldAddr_by (fa199_0 _) ⟨rfl, rfl⟩) ?_
  refine quiet _ (fun w H => ld_blk (H.ro 0 rfl) agg3 rfl ⟨rfl, rfl⟩) ?_
  refine cond_yes (decide_eq_true (by omega)) ?_
  exact ⟨rfl, H.keeps⟩

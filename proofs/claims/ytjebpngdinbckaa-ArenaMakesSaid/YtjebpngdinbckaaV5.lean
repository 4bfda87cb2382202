import Derived.Test.YtjebpngdinbckaaV4
/- Arenas: mark, Sweep, Reach. -/
namespace Go.Proofs.Ytjebpngdinbckaa
open Go.Dk
attribute [local irreducible] IntKind.wrap

theorem lvlA_range {A : Ar} {id : Int} (h : 0 ≤ lvlA A id) : id < (A.length : Int) + 2 := by
  rcases lvlA_node h with rfl | rfl | ⟨i, n, rfl, hi, _⟩
  · omega
  · omega
  · have := slot_lt hi; omega
theorem arR_keep {g r : Nat} {sv : Value} {room : Int} {A : Ar} {w w' : World} {F : Nat → Prop} (h : (arR g r sv room A).ok w) (hk : Keeps F w w') (hs : ∀ x, (arR g r sv room A).foot x → ¬ F x) : (arR g r sv room A).ok w' :=
  (arR g r sv room A).stable w w' (fun x hx => hk.old x (arR_lt h x hx) (hs x hx)) h
theorem arR_foot {g r : Nat} {B : Option Addr} {c n : Nat} {room : Int} {A : Ar} {N : List Slot} {l : List (Nd × Nat)} : ∀ s ∈ [blk g 199 (arV B n c room r), own 202 3 (.slice B n c) n (flat encS N), mapR kaN vbN r l], ∀ x, s.foot x → (arR g r (.slice B n c) room A).foot x := by
  intro s hs x hx
  simp only [List.mem_cons, List.not_mem_nil, or_false] at hs
  rcases hs with rfl | rfl | rfl
  · exact ⟨_, .head _, hx⟩
  · exact ⟨_, .tail _ (.head _), hx⟩
  · exact ⟨_, .tail _ (.tail _ (.head _)), hx⟩
theorem bls_getD {m : List Bool} {k : Nat} (hk : k < m.length) : (bls m)[k]? = some (.bool (m.getD k false)) := by
  rw [bls_get hk]; simp [List.getD_eq_getElem?_getD, hk]
/-- The marks, as they lie. -/
def metR (gm n : Nat) (m : List Bool) : Res := own 4 1 (.slice (some ⟨gm, 0, none⟩) n n) n (bls m)
theorem metR_len {gm n : Nat} {m : List Bool} {w : World} (h : (metR gm n m).ok w) : m.length = n := by
  have := h.1; rw [bls, List.length_map] at this; omega
theorem metR_lt {gm n : Nat} {m : List Bool} {w : World} (h : (metR gm n m).ok w) : ∀ x, (metR gm n m).foot x → x < w.heap.size := fun x hx => (World.ownsRow.lt (w := w) (base := 0) h x hx).2
theorem ent165 : enters Try.prog 165 = true := by kernel_rfl
theorem c165 {g r gm : Nat} {sv : Value} {room : Int} {A : Ar} (hok : ArOk room A) (hsep : ∀ x, (arR g r sv room A).foot x → x ≠ gm) : ∀ (f : Nat) (id : Int) (m : List Bool) (w : World), 24 - lvlA A id < f → id < 9223372036854775808 → (arR g r sv room A).ok w → (metR gm A.length m).ok w →
    Fun Try.prog 165 [.pointer (some ⟨g, 0, none⟩), .int .i64 id, .slice (some ⟨gm, 0, none⟩) A.length A.length] w fun v w' => v = .tuple #[] ∧ Turn w w' (metR gm A.length m) (metR gm A.length (markA A f id m)) := by
  intro f
  induction f with
  | zero => intro id m w hf; have := lvlA_le hok.inv id; omega
  | succ f ih =>
    intro id m w hf hid h hm
    refine fun_of_W (N := 45) Try.func165 ent165 rfl rfl rfl (by simp) ?_
    have h' := h
    obtain ⟨N, B, c, l, rfl, rfl, hl, hnd, H0⟩ := arR_open h'
    clear h'
    have hlen := metR_len hm
    have H := Hp.own1M hm (metR_lt hm) H0.rok H0.rlt (fun s hs x hx hx' => by
      have hx2 : gm = x := by injection hx'
      exact hsep x (arR_foot s hs x hx) hx2.symm)
    clear H0
    have hN2 : N.length ≤ 20000 := by have h3 := hok.len; have h4 := hok.room; rw [ars_length] at h3; omega
    cases ht : thereA (ars N) id with
    | false =>
      have e : markA (ars N) (f + 1) id m = m := by
        unfold markA
        unfold thereA at ht
        by_cases h2 : 2 ≤ id
        · rw [if_pos h2]; rw [decide_eq_true h2, Bool.true_and] at ht
          cases hs : slot (ars N) (id - 2).toNat with
          | none => rfl
          | some n => rw [hs] at ht; cases ht
        · rw [if_neg h2]
      rw [e]
      refine call_fn (c168 id hid _ h) ?_
      rintro _ w1 ⟨rfl, hk⟩
      replace h := arR_same h hk
      replace H := H.same hk
      clear hk
      rw [ht]
      iterate 7 refine cond_yes rfl ?_
      exact ⟨rfl, H.outTurn⟩
    | true =>
      obtain ⟨k, rfl⟩ : ∃ k : Nat, id = (k : Int) + 2 := by
        unfold thereA at ht
        rw [Bool.and_eq_true, decide_eq_true_eq] at ht
        exact ⟨(id - 2).toNat, by omega⟩
      have ht2 := ht
      unfold thereA at ht2
      rw [Bool.and_eq_true, show ((k : Int) + 2 - 2).toNat = k by omega] at ht2
      obtain ⟨n, hs⟩ := Option.isSome_iff_exists.1 ht2.2
      have hk' := slot_lt hs
      rw [ars_length] at hk'
      have hw := sub2 (show k < 9223372036854775806 by omega)
      have hkm : k < m.length := by rw [hlen, ars_length]; exact hk'
      have hmark : markA (ars N) (f + 1) ((k : Int) + 2) m = if m.getD k false then m else markA (ars N) f n.hi (markA (ars N) f n.lo (m.set k true)) := by
        rw [markA, if_pos (by omega), show ((k : Int) + 2 - 2).toNat = k by omega, hs]
      rw [hmark]
      cases hmk : m.getD k false with
      | true =>
        refine call_fn (c168 _ hid _ h) ?_
        rintro _ w1 ⟨rfl, hk⟩
        replace h := arR_same h hk
        replace H := H.same hk
        clear hk
        rw [ht]
        iterate 4 refine cond_no rfl ?_
        refine idxAddr_sl Try.underlying29 size4 k hw (by rw [ars_length]; exact hk') (o' := k) (by omega) ?_
        refine cond_no rfl ?_
        refine H.loadOwn 0 rfl agg4 (bls_getD hkm) ?_
        rw [hmk]
        refine cond_no rfl ?_
        refine cond_yes rfl ?_
        exact ⟨rfl, H.outTurn⟩
      | false =>
        obtain ⟨g0, rfl⟩ := own_base (H.ro 1 rfl) (by omega)
        obtain ⟨s, hs'⟩ : ∃ s, N[k]? = some s := ⟨_, List.getElem?_eq_getElem hk'⟩
        have hs2 := slot_ars hs'
        rw [hs] at hs2
        cases s with
        | inr p => cases hs2
        | inl n' =>
          cases hs2
          have hsep' : ∀ x, (arR g r (.slice (some ⟨g0, 0, none⟩) N.length c) room (ars N)).foot x → ¬ (metR gm (ars N).length m).foot x := fun x hx hx' => by
            have hx2 : gm = x := by injection hx'
            exact hsep x hx hx2.symm
          have h0 := h
          have hlev := hok.inv.lev k n hs
          rw [lvlA_slot hs] at hf
          have hr1 := lvlA_range (A := ars N) (id := n.lo) (by omega)
          have hr2 := lvlA_range (A := ars N) (id := n.hi) (by omega)
          rw [ars_length] at hr1 hr2
          refine call_fn (c168 _ hid _ h) ?_
          rintro _ w1 ⟨rfl, hk⟩
          replace h := arR_same h hk
          replace H := H.same hk
          clear hk
          rw [ht]
          iterate 4 refine cond_no rfl ?_
          refine idxAddr_sl Try.underlying29 size4 k hw (by rw [ars_length]; exact hk') (o' := k) (by omega) ?_
          refine cond_no rfl ?_
          refine H.loadOwn 0 rfl agg4 (bls_getD hkm) ?_
          rw [hmk]
          iterate 2 refine cond_no rfl ?_
          refine idxAddr_sl Try.underlying29 size4 k hw (by rw [ars_length]; exact hk') (o' := k) (by omega) ?_
          refine H.storeOwn 0 rfl size4 (by first | omega | decide | (simp only [IntKind.wrap_i64]; omega) | (rw [bls, List.length_map]; omega) | (rw [bytesV_length]; omega) | (rw [ints_length]; omega) | (simp; done) | (simp; omega)) rfl ?_
          clear H
          intro w13 H
          refine fieldAddr_by (fa199_1 _) ?_
          refine ld_blk (H.ro 0 rfl) agg197 rfl ?_
          refine idxAddr_sl Try.underlying197 size202 k hw hk' (o' := k * 3) (by omega) ?_
          refine fieldAddr_by (fa202_1 _ _) ?_
          refine ld_fld (H.ro 1 rfl) encS_length agg3 k 1 rfl hs' rfl ?_
          have hml : (markA (ars N) f n.lo (m.set k true)).length = (ars N).length := by rw [markA_length, List.length_set]; exact hlen
          replace H := H.re (r' := metR gm (ars N).length (m.set k true)) (fun h => by rw [metR, bls_set]; exact h) (fun g hg => hg)
          refine call_fn (ih n.lo (m.set k true) _ (by omega) (by omega) (arR_keep h0 H.keeps hsep') (H.get 0 rfl)) ?_
          rintro _ w14 ⟨rfl, ht1⟩
          replace H := H.turnBy 0 rfl ht1
          refine fieldAddr_by (fa199_1 _) ?_
          refine ld_blk (H.ro 0 rfl) agg197 rfl ?_
          refine idxAddr_sl Try.underlying197 size202 k hw hk' (o' := k * 3) (by omega) ?_
          refine fieldAddr_by (fa202_2 _ _) ?_
          refine ld_fld (H.ro 1 rfl) encS_length agg3 k 2 rfl hs' rfl ?_
          refine call_fn (ih n.hi (markA (ars N) f n.lo (m.set k true)) _ (by omega) (by omega) (arR_keep h0 H.keeps hsep') (H.get 0 rfl)) ?_
          rintro _ w15 ⟨rfl, ht2⟩
          replace H := H.turnBy 0 rfl ht2
          exact ⟨rfl, H.outTurn⟩

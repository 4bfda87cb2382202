import Derived.Test.YtjebpngdinbckaaV6
/- Arenas: Sweep. -/
namespace Go.Proofs.Ytjebpngdinbckaa
open Go.Dk
attribute [local irreducible] IntKind.wrap

def intsI (l : List Int) : List Value := l.map (Value.int .i64)
theorem intsI_length (l : List Int) : (intsI l).length = l.length := by simp [intsI]
theorem intsI_get {l : List Int} {i : Nat} (hi : i < l.length) : (intsI l)[i]? = some (.int .i64 l[i]) := by simp [intsI, hi]
/-- An arena among the parts, opened. -/
theorem arR_parts {w0 w : World} {F : Nat → Prop} {L M : List Res} {g r : Nat} {sv : Value} {room : Int} {A : Ar} (H : Hp w0 F w (arR g r sv room A :: L) M) :
    ∃ N B c l, ars N = A ∧ sv = .slice B N.length c ∧ IdsOk l A ∧ (akeys l).Nodup ∧
      Hp w0 F w (blk g 199 (arV B N.length c room r) :: own 202 3 (.slice B N.length c) N.length (flat encS N) :: mapR kaN vbN r l :: L) M := by
  have h := H.ok _ (.head _)
  obtain ⟨N, B, c, l, rfl, rfl, hl, hnd, _⟩ := arR_open h
  have H := Hp.split (Ls := arP g r (.slice B N.length c) room (ars N)) (L := L) H
  have H : Hp w0 F w (nodesR (.slice B N.length c) (ars N) :: blk g 199 (arV B N.length c room r) :: idsR r (ars N) :: L) M := H.front 1 rfl
  obtain ⟨N', hN', hown⟩ := H.ok _ (.head _)
  have hlen : N'.length = N.length := by rw [← ars_length, hN', ars_length]
  rw [hlen] at hown
  have H := H.re (r' := own 202 3 (.slice B N.length c) N.length (flat encS N')) (fun _ => hown) (fun g hg => hg)
  have H : Hp w0 F w (idsR r (ars N) :: own 202 3 (.slice B N.length c) N.length (flat encS N') :: blk g 199 (arV B N.length c room r) :: L) M := H.front 2 rfl
  obtain ⟨l', hl', hmap⟩ := H.ok _ (.head _)
  have hnd' : (akeys l').Nodup := by
    obtain ⟨es, clock, _, hs, he⟩ := hmap
    exact mapR_keys W196.inj hs he
  have H := H.re (r' := mapR kaN vbN r l') (fun _ => hmap) (fun g hg => hg)
  have H : Hp w0 F w (own 202 3 (.slice B N.length c) N.length (flat encS N') :: mapR kaN vbN r l' :: blk g 199 (arV B N.length c room r) :: L) M := H.front 1 rfl
  have H : Hp w0 F w (blk g 199 (arV B N.length c room r) :: own 202 3 (.slice B N.length c) N.length (flat encS N') :: mapR kaN vbN r l' :: L) M := H.front 2 rfl
  exact ⟨N', B, c, l', hN', by rw [hlen], hl', hnd', by rw [hlen]; exact H⟩
def marksTo (A : Ar) (ks : List Int) (k : Nat) : List Bool := (ks.take k).foldl (fun m id => markA A 26 id m) (List.replicate A.length false)
theorem marksTo_zero (A : Ar) (ks : List Int) : marksTo A ks 0 = List.replicate A.length false := rfl
theorem marksTo_succ (A : Ar) (ks : List Int) {i : Nat} (hi : i < ks.length) : marksTo A ks (i + 1) = markA A 26 ks[i] (marksTo A ks i) := by
  unfold marksTo
  rw [List.take_succ_eq_append_getElem hi, List.foldl_append]; rfl
theorem marksTo_all (A : Ar) (ks : List Int) : marksTo A ks ks.length = marksA A ks := by unfold marksTo marksA; rw [List.take_length]
theorem set_same {α : Type} {l : List α} {i : Nat} {x : α} (h : l[i]? = some x) : l.set i x = l := by
  apply List.ext_getElem?
  intro j
  rw [List.getElem?_set]
  by_cases hj : i = j
  · subst hj; rw [if_pos rfl, if_pos (List.getElem?_eq_some_iff.1 h).1, h]
  · simp [hj]
theorem ent66 : enters Try.prog 66 = true := by kernel_rfl
theorem c66_nil (x : Value) (w : World) : Fun Try.prog 66 [.pointer none, x] w fun v w' => v = .tuple #[] ∧ Same w w' := by
  refine fun_of_W (N := 67) Try.func66 ent66 rfl rfl rfl (by simp) ?_
  have H := Hp.start0 w
  refine bin_eql59z ?_
  refine cond_yes rfl ?_
  exact ⟨rfl, H.keeps⟩
theorem c66 {g r : Nat} {sv : Value} {room : Int} {A : Ar} (hok : ArOk room A) (ks : List Int) (hks : ∀ k ∈ ks, k < 9223372036854775808) (hkl : ks.length < 4611686018427387904) {S : Nat → Prop} {B0 : Option Addr} {c0 : Nat} (w : World) (h : (arR g r sv room A).ok w)
    (hkeep : (sl S (.slice B0 ks.length c0) 1 ks.length (intsI ks)).ok w) (hS : ∀ x, S x → x < w.heap.size) (hdis : ∀ x, S x → ¬ (arR g r sv room A).foot x) :
    Fun Try.prog 66 [.pointer (some ⟨g, 0, none⟩), .slice B0 ks.length c0] w fun v w' => v = .tuple #[] ∧ Turn w w' (arR g r sv room A) (arR g r sv room (sweepA A ks)) := by
  refine fun_of_W (N := 67) Try.func66 ent66 rfl rfl rfl (by simp) ?_
  have H := Hp.own1M h (arR_lt h) (M := [sl S (.slice B0 ks.length c0) 1 ks.length (intsI ks)]) (by simpa using hkeep) (by simpa [sl] using hS) (by simpa [sl] using hdis)
  obtain ⟨N, B, c, l, rfl, rfl, hl, hnd, _⟩ := arR_open h
  have hN2 : N.length ≤ 20000 := by have h3 := hok.len; have h4 := hok.room; rw [ars_length] at h3; omega
  have hlen : (ars N).length = N.length := ars_length N
  refine bin_eql59 ?_
  refine cond_no rfl ?_
  refine fieldAddr_by (fa199_1 _) ?_
  refine ld_blk ((H.get 0 rfl).1 _ (.head _)) agg197 rfl ?_
  refine len_sl Try.underlying197 ?_
  refine H.make T29 N.length rfl rfl (by omega) (by omega) ?_
  clear H
  intro g5 w5 H
  rw [madeBool, show List.replicate N.length (Value.bool false) = bls (List.replicate N.length false) from List.map_replicate.symm] at H
  refine len_sl Try.underlying32 ?_
  have hsep : ∀ x, (arR g r (.slice B N.length c) room (ars N)).foot x → x ≠ g5 := by
    rintro x hx rfl
    exact (List.pairwise_cons.1 H.dis).1 _ (.head _) x rfl hx
  refine loop_rule (γ := Nat) _ rfl (fun i => [(19, .int .i64 (i : Int))])
    (fun i w' => i ≤ ks.length ∧ Hp w (arR g r (.slice B N.length c) room (ars N)).foot w' [metR g5 N.length (marksTo (ars N) ks i), arR g r (.slice B N.length c) room (ars N)] [sl S (.slice B0 ks.length c0) 1 ks.length (intsI ks)]) (fun i => ks.length - i) 0 ⟨rfl, trivial⟩ ⟨Nat.zero_le _, by rw [marksTo_zero, hlen]; exact H⟩ ?_
  clear H
  rintro i u w8 ⟨hi, H⟩
  have hms := marksTo_succ (ars N) ks (i := i)
  refine cond_dec (fun h4 => ?_) (fun h4 => ?_)
  · obtain ⟨gk, ok2, rfl⟩ := (Sl_of_sl hkeep hS).A (by omega)
    refine idxAddr_sl Try.underlying32 (s := 1) size3 i rfl (by omega) (o' := ok2 + i) (by rw [Nat.mul_one]) ?_
    refine H.loadRO 0 rfl agg3 rfl (intsI_get (by omega)) ?_
    have hc := c165 hok hsep 26 ks[i] (marksTo (ars N) ks i) w8 (by have := lvlA_ge (ars N) ks[i]; omega) (hks _ (List.getElem_mem _)) (H.get 1 rfl) (by rw [hlen]; exact H.get 0 rfl)
    rw [hlen] at hc
    refine call_fn hc ?_
    rintro _ w9 ⟨rfl, ht⟩
    replace H := H.turnBy 0 rfl ht
    refine ⟨i + 1, by omega, ⟨up (by omega), trivial⟩, by omega, ?_⟩
    rw [hms (by omega)]
    exact H
  · obtain rfl : i = ks.length := by omega
    have hall : marksTo (ars N) ks ks.length = marksA (ars N) ks := marksTo_all _ _
    rw [hall] at H
    refine len_sl Try.underlying29 ?_
    have H := H.front 1 rfl
    obtain ⟨N2, B2, c2, l2, hN, hsv, hl2, hnd2, H⟩ := arR_parts H
    injection hsv with hB hNl hcc
    subst hB; subst hcc
    have hmk := (marks_spec hok.inv ks).1
    refine loop_rule (γ := Nat × List Slot × List (Nd × Nat)) _ rfl (fun (i, N', l') => [(30, .int .i64 (i : Int))])
      (fun (i, N', l') w' => (i ≤ N.length ∧ N'.length = N.length ∧ ars N' = sweepTo (ars N) (marksA (ars N) ks) i ∧ IdsOk l' (ars N') ∧ (akeys l').Nodup ∧ Uniq (ars N')) ∧
        Hp w (arR g r (.slice B N.length c) room (ars N)).foot w' [blk g 199 (arV B N.length c room r), own 202 3 (.slice B N.length c) N.length (flat encS N'), mapR kaN vbN r l', metR g5 N.length (marksA (ars N) ks)] []) (fun (i, _, _) => N.length - i) (0, N2, l2) ⟨rfl, trivial⟩
        ⟨⟨Nat.zero_le _, hNl.symm, hN, by rw [hN]; exact hl2, hnd2, by rw [hN]; exact hok.inv.uniq⟩, by rw [← hNl] at H; exact H.weakenRO (by simp)⟩ ?_
    clear H hN hl2 hnd2 hNl
    rintro ⟨i, N', l'⟩ u w9 ⟨⟨hi2, hlN, har, hl', hnd', huq⟩, H⟩
    have hsw : sweepTo (ars N) (marksA (ars N) ks) (i + 1) = if mb (marksA (ars N) ks) i then sweepTo (ars N) (marksA (ars N) ks) i else (sweepTo (ars N) (marksA (ars N) ks) i).set i none := rfl
    rw [hlen] at hmk
    refine cond_dec (fun h5 => ?_) (fun h5 => ?_)
    · have hi' : i < N'.length := by omega
      obtain ⟨g0, rfl⟩ := own_base (H.get 1 rfl) (by omega)
      obtain ⟨s, hs⟩ : ∃ s, N'[i]? = some s := ⟨_, List.getElem?_eq_getElem hi'⟩
      cases hm : (marksA (ars N) ks).getD i false with
      | true =>
        rw [if_pos (show mb (marksA (ars N) ks) i = true from hm)] at hsw
        refine idxAddr_sl Try.underlying29 (s := 1) (by kernel_rfl) _ rfl (by first | omega | decide | (simp only [IntKind.wrap_i64]; omega) | (rw [bls, List.length_map]; omega) | (rw [bytesV_length]; omega) | (rw [ints_length]; omega) | (simp; done) | (simp; omega)) (o' := _) (by rw [Nat.zero_add, Nat.mul_one]) ?_
        refine H.loadOwn 3 rfl agg4 (bls_getD (by omega)) ?_
        rw [hm]
        iterate 11 refine cond_no rfl ?_
        exact ⟨(i + 1, N', l'), by show N.length - (i + 1) < N.length - i; omega, ⟨up (by omega), trivial⟩, ⟨by show i + 1 ≤ _; omega, hlN, by rw [hsw]; exact har, hl', hnd', huq⟩, H⟩
      | false =>
        rw [if_neg (show ¬ mb (marksA (ars N) ks) i = true by unfold mb; rw [hm]; decide)] at hsw
        cases s with
        | inr p =>
          refine idxAddr_sl Try.underlying29 (s := 1) (by kernel_rfl) _ rfl (by first | omega | decide | (simp only [IntKind.wrap_i64]; omega) | (rw [bls, List.length_map]; omega) | (rw [bytesV_length]; omega) | (rw [ints_length]; omega) | (simp; done) | (simp; omega)) (o' := _) (by rw [Nat.zero_add, Nat.mul_one]) ?_
          refine H.loadOwn 3 rfl agg4 (bls_getD (by omega)) ?_
          rw [hm]
          iterate 3 refine cond_yes rfl ?_
          refine fieldAddr_by (fa199_1 _) ?_
          refine cond_yes rfl ?_
          refine H.load 0 rfl agg197 rfl ?_
          iterate 2 refine cond_yes rfl ?_
          refine idxAddr_sl Try.underlying197 size202 i rfl (by omega) (o' := i * 3) (by omega) ?_
          refine cond_yes rfl ?_
          refine fieldAddr_by (fa202_0 _ _) ?_
          refine cond_yes rfl ?_
          refine ld_fld (H.get 1 rfl) encS_length agg3 i 0 rfl hs rfl ?_
          iterate 2 refine cond_yes rfl ?_
          refine cond_no rfl ?_
          have e : (ars N').set i none = ars N' := set_same (by rw [slot_get (by rw [ars_length]; exact hi'), slot_ars hs]; rfl)
          exact ⟨(i + 1, N', l'), by show N.length - (i + 1) < N.length - i; omega, ⟨up (by omega), trivial⟩, ⟨by show i + 1 ≤ _; omega, hlN, by rw [hsw, ← har, e], hl', hnd', huq⟩, H⟩
        | inl n =>
          refine idxAddr_sl Try.underlying29 (s := 1) (by kernel_rfl) _ rfl (by first | omega | decide | (simp only [IntKind.wrap_i64]; omega) | (rw [bls, List.length_map]; omega) | (rw [bytesV_length]; omega) | (rw [ints_length]; omega) | (simp; done) | (simp; omega)) (o' := _) (by rw [Nat.zero_add, Nat.mul_one]) ?_
          refine H.loadOwn 3 rfl agg4 (bls_getD (by omega)) ?_
          rw [hm]
          iterate 3 refine cond_yes rfl ?_
          refine fieldAddr_by (fa199_1 _) ?_
          refine cond_yes rfl ?_
          refine H.load 0 rfl agg197 rfl ?_
          iterate 2 refine cond_yes rfl ?_
          refine idxAddr_sl Try.underlying197 size202 i rfl (by omega) (o' := i * 3) (by omega) ?_
          refine cond_yes rfl ?_
          refine fieldAddr_by (fa202_0 _ _) ?_
          refine cond_yes rfl ?_
          refine ld_fld (H.get 1 rfl) encS_length agg3 i 0 rfl hs rfl ?_
          iterate 3 refine cond_yes rfl ?_
          refine H.draw fol (by kernel_rfl) ?_
          clear H
          intro w23 H
          refine quiet _ (fun w H => fieldAddr_by (fa199_2 _) ⟨rfl, rfl⟩) ?_
          refine quiet _ (fun w H => H.load 0 rfl agg196 rfl ⟨rfl, rfl⟩) ?_
          refine quiet _ (fun w H => fieldAddr_by (fa199_1 _) ⟨rfl, rfl⟩) ?_
          refine quiet _ (fun w H => H.load 0 rfl agg197 rfl ⟨rfl, rfl⟩) ?_
          refine quiet _ (fun w H => idxAddr_sl Try.underlying197 size202 i rfl (by omega) (o' := i * 3) (by omega) ⟨rfl, rfl⟩) ?_
          refine quiet _ (fun w H => ld_agg (H.get 1 rfl) encS_length agg202 size202 i rfl hs ⟨rfl, rfl⟩) ?_
          refine H.mapDel 2 rfl W196 n ?_
          clear H
          intro w30 H
          refine ⟨.inr rfl, ?_⟩
          refine fieldAddr_by (fa199_1 _) ?_
          refine H.load 0 rfl agg197 rfl ?_
          refine idxAddr_sl Try.underlying197 size202 i rfl (by omega) (o' := i * 3) (by omega) ?_
          refine fieldAddr_by (fa202_0 _ _) ?_
          refine H.storeOwnFld 1 (.inr ((n.lo : Int), (n.hi : Int))) rfl encS_length size3 i 0 rfl hs (by decide) rfl rfl ?_
          clear H
          intro w36 H
          have hsl : slot (ars N') i = some n := slot_ars hs
          have e : ars (N'.set i (.inr ((n.lo : Int), (n.hi : Int)))) = (ars N').set i none := by rw [ars_set]; rfl
          exact ⟨(i + 1, N'.set i (.inr ((n.lo : Int), (n.hi : Int))), adel l' n), by show N.length - (i + 1) < N.length - i; omega, ⟨up (by omega), trivial⟩,
            ⟨by show i + 1 ≤ _; omega, by rw [List.length_set]; exact hlN, by rw [e, hsw, har], by rw [e]; exact ids_clear hl' hnd' huq hsl, akeys_nodup_adel hnd' n, by rw [e]; exact uniq_clear huq⟩, H⟩
    · refine ⟨rfl, ?_⟩
      obtain rfl : i = N.length := by omega
      have hfin : ars N' = sweepA (ars N) ks := by rw [har, sweepA, hlen]
      have H := arR_close H hlN hl'
      rw [hfin] at H
      exact H.outTurn

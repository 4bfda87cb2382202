import Derived.Test.YtjebpngdinbckaaV12
/- The reference's arenas: Sweep. -/
namespace Go.Proofs.Ytjebpngdinbckaa
open Go.Dk
attribute [local irreducible] IntKind.wrap

/-- The nodes behind a sweep. -/
def swp (N : List RN) (M : List Bool) : List RN := N.mapIdx fun j x => (x.1, x.2 || !mb M (j + 2))
theorem swp_length (N : List RN) (M : List Bool) : (swp N M).length = N.length := List.length_mapIdx ..
theorem swp_snoc {N : List RN} {M : List Bool} {i : Nat} {x : RN} (h : N[i]? = some x) : swp (N.take (i + 1)) M = swp (N.take i) M ++ [(x.1, x.2 || !mb M (i + 2))] := by
  have hi := (List.getElem?_eq_some_iff.1 h).1
  unfold swp
  rw [List.take_add_one, h, Option.toList_some, List.mapIdx_concat, List.length_take, Nat.min_eq_left (by omega)]
theorem slots_eq {A C : Ar} (hl : A.length = C.length) (h : ∀ i n, slot A i = some n ↔ slot C i = some n) : A = C := by
  apply List.ext_getElem?
  intro i
  by_cases hi : i < A.length
  · rw [slot_get hi, slot_get (by omega), Option.ext (h i)]
  · rw [List.getElem?_eq_none (by omega), List.getElem?_eq_none (by omega)]
theorem ab_swp {N : List RN} {M : List Bool} {ks : List Int} (hA : ArInv (ab N)) (hM : ∀ x, mb M (x + 2) = true ↔ ∃ k ∈ ks, Rch (ab N) k x) : ab (swp N M) = sweepA (ab N) ks := by
  refine slots_eq (by rw [ab_length, swp_length, show (sweepA (ab N) ks).length = (ab N).length from sweepTo_length _ _ _, ab_length]) fun i n => ?_
  rw [slot_sweep hA, ← hM]
  by_cases hi : i < N.length
  · have hx : N[i]? = some N[i] := List.getElem?_eq_getElem hi
    have hy : (swp N M)[i]? = some (N[i].1, N[i].2 || !mb M (i + 2)) := by unfold swp; rw [List.getElem?_mapIdx, hx]; rfl
    rw [slot_ab hx, slot_ab hy]
    cases N[i].2 <;> cases mb M (i + 2) <;> simp
  · rw [slot_none (by rw [ab_length, swp_length]; omega), slot_none (by rw [ab_length]; omega)]
    simp
theorem ent67 : enters Try.prog 67 = true := by kernel_rfl
theorem c67 (room : Int) (N : List RN) (B : Option Addr) (c : Nat) (ks : List Int) (Bk : Option Addr) (ck : Nat) (w : World) (hl : N.length ≤ 100000) (hkl : ks.length ≤ 100000) (hs : Sl w (.slice B N.length c) 4 N.length (flat encN N))
    (hsk : Sl w (.slice Bk ks.length ck) 1 ks.length (intsI ks)) (hA : ArInv (ab N)) :
    Fun Try.prog 67 [rv room (.slice B N.length c), .slice Bk ks.length ck] w fun v w' =>
      ∃ N' B' c', ab N' = sweepA (ab N) ks ∧ v = rv room (.slice B' N'.length c') ∧ NewR w w' (own 78 4 (.slice B' N'.length c') N'.length (flat encN N')) := by
  refine fun_of_W (N := 45) Try.func67 ent67 rfl rfl rfl (by simp) ?_
  have H := Hp.start0 w
  refine H.box 64 (rv _ _) (cs := rc _ _) rfl ?_
  clear H
  intro g1 w1 H
  refine H.alloc 64 zero64 rfl ?_
  clear H
  intro g2 w2 H
  refine H.loadAll 1 rfl agg64 size64 ?_
  refine call_fn (c73 room N B c ks Bk ck _ hl hkl (hs.same H.keeps) (hsk.same H.keeps) hA) ?_
  rintro _ w3 ⟨g3, M, rfl, hMl, hM, hn⟩
  replace H := H.addNew hn
  clear hn
  refine cut_rule (γ := Nat) _ rfl (fun g4 => [(6, .pointer (some ⟨g4, 0, none⟩))]) (fun g4 w' => Hp w (fun _ => False) w' [blk g4 64 (rc room (.slice none 0 0)), own 4 1 (.slice (some ⟨g3, 0, none⟩) (N.length + 2) (N.length + 2)) (N.length + 2) (bls M), blk g2 64 (rv 0 (.slice none 0 0)).cells, blk g1 64 (rc room (.slice B N.length c))] []) ?_ ?_
  · refine fieldAddr_by (fa64_0 _) ?_
    refine H.load 2 rfl agg3 rfl ?_
    refine build64a ?_
    refine H.alloc 64 zero64 rfl ?_
    clear H
    intro g7 w7 H
    refine H.storeAll 0 rfl size64 rfl (fun v hv => rc_one v hv) ?_ 
    clear H 
    intro w8 H
    exact ⟨_, ⟨rfl, trivial⟩, H⟩
  · clear H
    rintro g4 u w4 H
    replace H : Hp _ _ _ _ _ := H
    replace H := (H.ownNil 78 4).front 1 rfl
    refine cut_rule (γ := Option Addr × Nat) _ rfl (fun _ => []) (fun (A, d) w' => Hp w (fun _ => False) w' [blk g4 64 (rc room (.slice A N.length d)), own 78 4 (.slice A N.length d) N.length (flat encN (swp N M)), own 4 1 (.slice (some ⟨g3, 0, none⟩) (N.length + 2) (N.length + 2)) (N.length + 2) (bls M), blk g2 64 (rv 0 (.slice none 0 0)).cells, blk g1 64 (rc room (.slice B N.length c))] []) ?_ ?_
    · refine loop_rule (γ := Nat × Option Addr × Nat) _ rfl (fun (i, _, _) => [(7, .int .i64 (i : Int))])
        (fun (i, A, d) w' => i ≤ N.length ∧ Hp w (fun _ => False) w' [blk g4 64 (rc room (.slice A i d)), own 78 4 (.slice A i d) i (flat encN (swp (N.take i) M)), own 4 1 (.slice (some ⟨g3, 0, none⟩) (N.length + 2) (N.length + 2)) (N.length + 2) (bls M), blk g2 64 (rv 0 (.slice none 0 0)).cells, blk g1 64 (rc room (.slice B N.length c))] [])
        (fun (i, _, _) => N.length - i) (0, none, 0) ⟨rfl, trivial⟩ ⟨Nat.zero_le _, H⟩ ?_
      clear H
      rintro ⟨i, A, d⟩ u w5 ⟨hi, H⟩
      replace H : Hp _ _ _ _ _ := H
      refine fieldAddr_by (fa64_1 _) ?_
      refine H.load 4 rfl agg62 rfl ?_
      refine len_sl Try.underlying62 ?_
      refine cond_dec (fun h7 => ?_) (fun h7 => ?_)
      · obtain ⟨x, hx⟩ : ∃ y, N[i]? = some y := ⟨_, List.getElem?_eq_getElem (by omega)⟩
        obtain ⟨g0, o0, rfl⟩ := hs.A (by omega)
        have hsn := swp_snoc (M := M) hx
        refine fieldAddr_by (fa64_1 _) ?_
        refine H.load 4 rfl agg62 rfl ?_
        refine idxAddr_sl Try.underlying62 (s := 4) size78 i rfl (by omega) (o' := o0 + i * 4) rfl ?_
        refine Sl.loadAgg H hs encN_length agg78 size78 i rfl hx ?_
        refine H.alloc 78 zero78 rfl ?_
        clear H
        intro g9 w8 H
        refine H.storeAll 0 rfl size78 rfl (fun v hv => encN_one x v hv) ?_
        clear H
        intro w9 H
        refine cut_rule (γ := Unit) _ rfl (fun _ => []) (fun _ w' => Hp w (fun _ => False) w' [blk g9 78 (encN (x.1, x.2 || !mb M (i + 2))).toArray, blk g4 64 (rc room (.slice A i d)), own 78 4 (.slice A i d) i (flat encN (swp (N.take i) M)), own 4 1 (.slice (some ⟨g3, 0, none⟩) (N.length + 2) (N.length + 2)) (N.length + 2) (bls M), blk g2 64 (rv 0 (.slice none 0 0)).cells, blk g1 64 (rc room (.slice (some ⟨g0, o0, none⟩) N.length c))] []) ?_ ?_
        · refine fieldAddr_by (fa78_3 _) ?_
          refine H.load 0 rfl agg4 rfl ?_
          refine cond_split (fun h11 => ?_) (fun h11 => ?_)
          · refine cond_yes (by assumption) ?_
            iterate 5 refine cond_yes (by assumption) ?_
            refine fieldAddr_by (fa78_3 _) ?_
            refine H.store 0 rfl size4 (by show 3 < 4; decide) rfl ?_ 
            clear H 
            intro w19 H
            exact ⟨(), trivial, by rw [h11, Bool.true_or]; exact H⟩
          · refine cond_no (by assumption) ?_
            iterate 2 refine cond_no (by assumption) ?_
            refine idxAddr_sl Try.underlying29 (s := 1) size4 (i + 2) (wlen2 (by omega)) (by omega) (o' := i + 2) (by omega) ?_
            refine cond_no (by assumption) ?_
            refine H.loadOwn 3 rfl agg4 (bls_mb (by omega)) ?_
            iterate 2 refine cond_no (by assumption) ?_
            refine fieldAddr_by (fa78_3 _) ?_
            refine H.store 0 rfl size4 (by show 3 < 4; decide) rfl ?_ 
            clear H 
            intro w30 H
            exact ⟨(), trivial, by rw [h11, Bool.false_or]; exact H⟩
        · clear H
          rintro ⟨⟩ u w7 H
          replace H : Hp _ _ _ _ _ := H
          refine fieldAddr_by (fa64_1 _) ?_
          refine H.load 1 rfl agg62 rfl ?_
          refine H.loadAll 0 rfl agg78 size78 ?_
          refine H.buildSl T62 (cs := (encN (x.1, x.2 || !mb M (i + 2))).toArray) (by decide) (by decide) (by kernel_rfl) ?_
          clear H
          intro g5 w9 H
          refine H.appendBlk 3 0 T62 rfl rfl rfl (encN_one _) (by omega) (by omega) ?_
          clear H
          intro A1 d1 w10 H
          refine fieldAddr_by (fa64_1 _) ?_
          refine H.store 2 rfl size62 (by show 1 < 2; decide) rfl ?_
          clear H
          intro w11 H
          exact ⟨(i + 1, A1, d1), by show N.length - (i + 1) < N.length - i; omega, ⟨up (by omega), trivial⟩, by show i + 1 ≤ N.length; omega, by rw [hsn, flat_snoc]; exact H.forget.forget⟩
      · have : i = N.length := by omega
        subst this
        rw [List.take_length] at H
        exact ⟨(A, d), trivial, H⟩
    · clear H
      rintro ⟨A, d⟩ u w5 H
      replace H : Hp _ _ _ _ _ := H
      refine H.loadAll 0 rfl agg64 size64 ?_
      refine H.storeAll 3 rfl size64 rfl (fun v hv => rc_one v hv) ?_ 
      clear H 
      intro w6 H
      refine H.loadAll 3 rfl agg64 size64 ?_
      refine ⟨rfl, ?_⟩
      exact ⟨swp N M, A, d, ab_swp hA hM, by rw [swp_length]; rfl, by rw [swp_length]; exact H.outAt 1 rfl⟩
end Go.Proofs.Ytjebpngdinbckaa

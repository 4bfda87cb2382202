import Derived.Test.YtjebpngdinbckaaS3

/- The references of chapter 1, on. -/
namespace Go.Proofs.Ytjebpngdinbckaa
open Go.Dk
attribute [local irreducible] IntKind.wrap

/-- The set of flags. -/
def ofFlags (l : List Bool) : Nat := setOf fun p => l.getD p false
/-- Of which the words below i, and k bits of word i, are there. -/
def part (l : List Bool) (m : Nat) : Nat := mkSet (fun p => l.getD p false) m
theorem word_part_other {l : List Bool} {i k j : Nat} (hk : k ≤ 64) (hj : j ≠ i) : word (part l (64 * i + k)) j = word (part l (64 * i)) j := by
  apply Nat.eq_of_testBit_eq; intro b
  simp only [testBit_word, part, testBit_mkSet]
  by_cases hb : b < 64
  · have : decide (64 * j + b < 64 * i + k) = decide (64 * j + b < 64 * i) := by rw [Bool.eq_iff_iff]; simp; omega
    rw [this]
  · simp [hb]
theorem word_part_self (l : List Bool) (i k : Nat) (hk : k < 64) : word (part l (64 * i + (k + 1))) i = word (part l (64 * i + k)) i + if l.getD (64 * i + k) false then 2 ^ k else 0 := by
  have e : part l (64 * i + (k + 1)) = part l (64 * i + k) + if l.getD (64 * i + k) false then 2 ^ (64 * i + k) else 0 := rfl
  rw [e]
  have hlt : part l (64 * i + k) < 2 ^ (64 * i + k) := mkSet_lt _ _
  have hd : part l (64 * i + k) / 2 ^ (64 * i) < 2 ^ k := by
    apply Nat.div_lt_of_lt_mul; rw [← Nat.pow_add]; exact hlt
  have h2 : 2 ^ (k + 1) ≤ 2 ^ 64 := Nat.pow_le_pow_right (by decide) (by omega)
  have h3 : 2 ^ (k + 1) = 2 ^ k * 2 := Nat.pow_succ ..
  unfold word
  split
  · have e2 : 2 ^ (64 * i + k) = 2 ^ k * 2 ^ (64 * i) := by rw [Nat.pow_add, Nat.mul_comm]
    rw [e2, Nat.add_mul_div_right _ _ (Nat.two_pow_pos _), Nat.mod_eq_of_lt (by omega), Nat.mod_eq_of_lt (by omega)]
  · simp
theorem part_full (l : List Bool) : part l 256 = ofFlags l := rfl

theorem ent38 : enters Try.prog 38 = true := by kernel_rfl
theorem c38 (l : List Bool) (hl : l.length = 256) (A : Option Addr) (c : Nat) (w : World) (hs : Sl w (.slice A 256 c) 1 256 (bls l)) : Fun Try.prog 38 [.slice A 256 c] w fun v w' => v = sv (ofFlags l) ∧ Same w w' := by
  refine fun_of_W (N := 30) Try.func38 ent38 rfl rfl rfl (by simp) ?_
  obtain ⟨g, o, rfl⟩ := hs.A (by omega)
  have H := Hp.start0 w
  refine H.alloc 24 (cs := sc 0) zero24 sc_zero ?_
  intro g1 w1 H
  refine H.alloc 24 (cs := sc 0) zero24 sc_zero ?_
  intro g2 w2 H
  refine loop_rule (γ := Nat) _ rfl (fun i => [(4, .int .i64 (i : Int))])
    (fun i w' => i ≤ 4 ∧ Hp w (fun _ => False) w' [blk g2 24 (sc (part l (64 * i))), blk g1 24 (sc 0)] []) (fun i => 4 - i) 0 ⟨rfl, trivial⟩ ⟨by decide, H⟩ ?_
  clear H
  rintro i u w3 ⟨hi, H⟩
  refine cond_split (fun h => ?_) (fun h => ?_)
  · have hi4 : i < 4 := by have := of_decide_eq_true h; omega
    refine loop_rule (γ := Nat) _ rfl (fun k => [(5, .int .i64 (k : Int))])
      (fun k w' => k ≤ 64 ∧ Hp w (fun _ => False) w' [blk g2 24 (sc (part l (64 * i + k))), blk g1 24 (sc 0)] []) (fun k => 64 - k) 0 ⟨rfl, trivial⟩ ⟨by decide, H⟩ ?_
    clear H
    rintro k u2 w4 ⟨hk, H⟩
    refine cond_split (fun h => ?_) (fun h => ?_)
    · have hk4 : k < 64 := by have := of_decide_eq_true h; omega
      have hlk : 64 * i + k < l.length := by omega
      have hgd : l.getD (64 * i + k) false = l[64 * i + k] := by simp [hlk]
      refine idxAddr_sl Try.underlying29 size4 (64 * i + k) ?_ (by omega) (o' := o + (64 * i + k)) (by omega) ?_
      · rw [wrap_i64_in (x := 64 * (i : Int)) (by omega) (by omega), wrap_i64_in (by omega) (by omega)]; omega
      refine H.loadSl hs agg4 _ rfl (bls_get hlk) ?_
      have hstep := word_part_self l i k hk4
      rw [hgd] at hstep
      refine cond_split (fun hb => ?_) (fun hb => ?_)
      · rw [hb] at hstep
        refine draw_mix (fun w' => Hp w (fun _ => False) w' [blk g2 24 (sc (part l (64 * i + k))), blk g1 24 (sc 0)] []) fol (by kernel_rfl) (H.same (Keeps.drew _)) ?_
        refine quiet (.pointer (some ⟨g2, i, none⟩)) (fun w _ => idxAddr_arr Try.underlying24 size22 i rfl hi4 (by omega) ⟨rfl, rfl⟩) ?_
        refine quiet (.int .u64 (word (part l (64 * i + k)) i : Int)) (fun w H => H.load 0 rfl agg22 (sc_get _ i hi4) ⟨rfl, rfl⟩) ?_
        refine call_fn (c155 k (by omega) _) ?_
        rintro v w6 ⟨rfl, hk⟩
        have H := (H.same (Keeps.drew _)).same hk
        refine ⟨.inl H, ?_⟩
        refine quiet (.pointer (some ⟨g2, i, none⟩)) (fun w _ => idxAddr_arr Try.underlying24 size22 i rfl hi4 (by omega) ⟨rfl, rfl⟩) ?_
        refine H.store 0 rfl size22 (by show i < 4; omega) rfl ?_
        intro w7 H
        refine ⟨.inr (by kernel_rfl), ?_⟩
        refine ⟨k + 1, by omega, ⟨up (by omega), trivial⟩, by omega, ?_⟩
        have e : (sc (part l (64 * i + k))).setIfInBounds i (.int .u64 (IntKind.u64.wrap ((word (part l (64 * i + k)) i : Int) + ((2 ^ k : Nat) : Int)))) = sc (part l (64 * i + (k + 1))) := by
          refine sc_ext (by simp [sc]) fun j hj => ?_
          by_cases hji : j = i
          · subst hji
            rw [Array.getElem?_setIfInBounds_self_of_lt (by show j < 4; omega), hstep]
            have h1 := word_lt (part l (64 * j + (k + 1))) j
            rw [hstep] at h1
            simp only [if_true] at h1 ⊢
            generalize 2 ^ k = q at *
            rw [wrap_u64_in (by omega) (by omega), Int.natCast_add]
          · rw [Array.getElem?_setIfInBounds_ne (Ne.symm hji), sc_get _ j hj, word_part_other (by omega) hji, word_part_other (by omega) hji]
        rw [← e]; exact H
      · rw [hb] at hstep
        have e : sc (part l (64 * i + (k + 1))) = sc (part l (64 * i + k)) := by
          refine (sc_ext rfl fun j hj => ?_).symm
          rw [sc_get _ j hj]
          by_cases hji : j = i
          · subst hji; rw [hstep]; simp
          · rw [word_part_other (by omega) hji, word_part_other (by omega) hji]
        refine ⟨k + 1, by omega, ⟨up (by omega), trivial⟩, by omega, ?_⟩
        rw [e]; exact H
    · have hk4 : k = 64 := by have := of_decide_eq_false h; omega
      subst hk4
      exact ⟨i + 1, by omega, ⟨up (by omega), trivial⟩, by omega, H⟩
  · have hi4 : i = 4 := by have := of_decide_eq_false h; omega
    subst hi4
    refine H.loadAll 0 rfl agg24 size24 ?_
    refine H.storeAll 1 rfl size24 rfl (sc_one _) ?_
    intro w6 H
    refine H.loadAll 1 rfl agg24 size24 ?_
    exact ⟨rfl, rfl, H.keeps⟩

theorem ent45 : enters Try.prog 45 = true := by kernel_rfl
theorem c45_yes (n p : Nat) (hp : p < 256) (w : World) : Fun Try.prog 45 [sv n, .int .i64 (p : Int)] w fun v w' => v = .bool (n.testBit p) ∧ Same w w' := by
  refine fun_of_W (N := 16) Try.func45 ent45 rfl rfl rfl (by simp) ?_
  have H := Hp.start0 w
  refine H.box 24 (sv n) (cs := sc n) rfl ?_
  intro g1 w1 H
  have hd : decide ((p : Int) < 0) = false := by simp
  refine cond_no hd ?_
  refine cond_no hd ?_
  refine cond_no hd ?_
  refine cond_no (by simp; omega) ?_
  refine H.loadAll 0 rfl agg24 size24 ?_
  refine call_fn (c40 n _) ?_
  rintro v w2 ⟨A, c, rfl, hn⟩
  have H := H.addNew hn
  obtain ⟨g, rfl⟩ := H.ownA 0 rfl (by omega)
  refine idxAddr_sl Try.underlying29 size4 p rfl hp (o' := p) (by omega) ?_
  refine H.loadOwn 0 rfl agg4 (flagsN_get hp) ?_
  exact ⟨rfl, H.keeps⟩
theorem c45_no (n : Nat) (p : Int) (hp : mayB p = false) (w : World) : Fun Try.prog 45 [sv n, .int .i64 p] w fun v w' => v = .bool false ∧ Same w w' := by
  refine fun_of_W (N := 16) Try.func45 ent45 rfl rfl rfl (by simp) ?_
  have H := Hp.start0 w
  refine H.box 24 (sv n) (cs := sc n) rfl ?_
  intro g1 w1 H
  have hp' : p < 0 ∨ 256 ≤ p := by simp [mayB] at hp; omega
  refine cond_split (fun h => ?_) (fun h => ?_)
  · refine cond_yes h ?_
    refine cond_yes h ?_
    refine cond_yes rfl ?_
    exact ⟨rfl, H.keeps⟩
  · refine cond_no h ?_
    refine cond_no h ?_
    refine cond_yes (by simp at h ⊢; omega) ?_
    exact ⟨rfl, H.keeps⟩
theorem c45 (n : Nat) (p : Int) (w : World) : Fun Try.prog 45 [sv n, .int .i64 p] w fun v w' => v = .bool (hasI n p) ∧ Same w w' := by
  cases h : mayB p with
  | true =>
    have h' : 0 ≤ p ∧ p < 256 := by simpa [mayB] using h
    obtain ⟨q, rfl⟩ := Int.eq_ofNat_of_zero_le h'.1
    have := c45_yes n q (by omega) w
    simpa [hasI, h] using this
  | false => simpa [hasI, h] using c45_no n p h w

/-- The flags of all points of n inputs. -/
def allFlags (n : Nat) : List Bool := (List.range 256).map fun p => decide (p < 2 ^ n)
def allTo (j : Nat) : List Bool := (List.range 256).map fun p => decide (p < j)
theorem allTo_zero : allTo 0 = List.replicate 256 false := by simp [allTo, List.map_const']
theorem allTo_succ {j : Nat} (_ : j < 256) : (allTo j).set j true = allTo (j + 1) := by
  apply List.ext_getElem (by simp [allTo])
  intro p h1 h2
  simp only [allTo, List.length_set, List.length_map, List.length_range] at h1
  rw [List.getElem_set]
  simp only [allTo, List.getElem_map, List.getElem_range]
  by_cases h : j = p
  · subst h; simp
  · simp [h]; omega
theorem madeBool (n : Nat) : (madeCells (Value.bool false).cells (n * 1)).toList = List.replicate n (.bool false) := by
  rw [Nat.mul_one]; exact toList_madeCells_one _ _

theorem ent39 : enters Try.prog 39 = true := by kernel_rfl
theorem c39 (n : Nat) (hn : n ≤ 8) (w : World) : Fun Try.prog 39 [.int .i64 (n : Int)] w fun v w' => ∃ A c, v = .slice A 256 c ∧ NewR w w' (own 4 1 (.slice A 256 c) 256 (bls (allFlags n))) := by
  refine fun_of_W (N := 17) Try.func39 ent39 rfl rfl rfl (by simp) ?_
  have H := Hp.start0 w
  refine H.make T29 256 rfl rfl (by omega) (by omega) ?_
  intro g w1 H
  rw [madeBool, show List.replicate 256 (Value.bool false) = bls (allTo 0) from by rw [allTo_zero]; exact List.map_replicate.symm] at H
  have h2 : 2 ^ n ≤ 2 ^ 8 := Nat.pow_le_pow_right (by decide) hn
  refine loop_rule (γ := Nat) _ rfl (fun j => [(4, .int .i64 (j : Int))])
    (fun j w' => j ≤ 2 ^ n ∧ Hp w (fun _ => False) w' [own 4 1 (.slice (some ⟨g, 0, none⟩) 256 256) 256 (bls (allTo j))] []) (fun j => 2 ^ n - j) 0 ⟨rfl, trivial⟩ ⟨Nat.zero_le _, H⟩ ?_
  clear H
  rintro j u w2 ⟨hj, H⟩
  refine conv_int (by kernel_rfl) Try.underlying22 ?_
  refine call_fn (c155 n (by omega) _) ?_
  rintro v w3 ⟨rfl, hk⟩
  have H := H.same hk
  rw [wrap_u64_in (by omega) (by omega)]
  refine cond_split (fun h => ?_) (fun h => ?_)
  · have hlt : j < 2 ^ n := by have := of_decide_eq_true h; omega
    refine idxAddr_sl Try.underlying29 size4 j rfl (by omega) (o' := j) (by omega) ?_
    refine H.storeOwn 0 rfl size4 (by rw [bls, List.length_map, allTo, List.length_map, List.length_range]; omega) rfl ?_
    intro w4 H
    refine ⟨j + 1, by omega, ⟨up (by omega), trivial⟩, by omega, ?_⟩
    rw [← allTo_succ (by omega), bls, List.map_set]
    exact H
  · have : j = 2 ^ n := by have := of_decide_eq_false h; omega
    subst this
    exact ⟨_, _, rfl, H.out⟩

theorem ent42 : enters Try.prog 42 = true := by kernel_rfl
theorem c42 (n : Nat) (w : World) : Fun Try.prog 42 [sv n] w fun v w' => ∃ A c, v = .slice A (pts n).length c ∧ NewR w w' (own 3 1 (.slice A (pts n).length c) (pts n).length (ints (pts n))) := by
  refine fun_of_W (N := 21) Try.func42 ent42 rfl rfl rfl (by simp) ?_
  have H := Hp.start0 w
  refine H.box 24 (sv n) (cs := sc n) rfl ?_
  intro g1 w1 H
  refine H.loadAll 0 rfl agg24 size24 ?_
  refine call_fn (c40 n _) ?_
  rintro v w2 ⟨A, c, rfl, hn⟩
  have H := H.addNew hn
  obtain ⟨g, rfl⟩ := H.ownA 0 rfl (by omega)
  have H := H.ownNil 3 1
  refine loop_rule (γ := Nat × Option Addr × Nat) _ rfl (fun (i, A, c) => [(5, .int .i64 (i : Int)), (4, .slice A (bitsBelow n i).length c)])
    (fun (i, A, d) w' => i ≤ 256 ∧ Hp w (fun _ => False) w' [own 3 1 (.slice A (bitsBelow n i).length d) (bitsBelow n i).length (ints (bitsBelow n i)), own 4 1 (.slice (some ⟨g, 0, none⟩) 256 c) 256 (bls (flagsN n)), blk g1 24 (sc n)] [])
    (fun (i, _, _) => 256 - i) (0, none, 0) ⟨rfl, rfl, trivial⟩ ⟨by decide, H⟩ ?_
  clear H hn
  rintro ⟨i, A, d⟩ u w2 ⟨hi, H⟩
  have hl := bitsBelow_le n i
  refine cond_split (fun h => ?_) (fun h => ?_)
  · have hi4 : i < 256 := by have := of_decide_eq_true h; omega
    refine idxAddr_sl Try.underlying29 size4 i rfl hi4 (o' := i) (by omega) ?_
    refine H.loadOwn 1 rfl agg4 (flagsN_get hi4) ?_
    refine cond_split (fun hb => ?_) (fun hb => ?_)
    · refine H.buildOne T32 rfl ?_
      intro g2 w4 H
      refine H.appendOne 0 T32 rfl rfl (by omega) (by omega) ?_
      intro A' c' w5 H
      have e : bitsBelow n (i + 1) = bitsBelow n i ++ [i] := by rw [bitsBelow_succ, if_pos hb]
      have e1 : (bitsBelow n (i + 1)).length = (bitsBelow n i).length + 1 := by rw [e]; simp
      have e2 : ints (bitsBelow n (i + 1)) = ints (bitsBelow n i) ++ [.int .i64 (i : Int)] := by rw [e]; simp [ints]
      refine ⟨(i + 1, A', c'), by show 256 - (i + 1) < 256 - i; omega, ⟨up (by omega), by rw [e1]; rfl, trivial⟩, by show i + 1 ≤ 256; omega, ?_⟩
      show Hp w _ _ [own 3 1 (.slice A' (bitsBelow n (i + 1)).length c') (bitsBelow n (i + 1)).length (ints (bitsBelow n (i + 1))), _, _] []
      rw [e1, e2]
      exact H
    · have e : bitsBelow n (i + 1) = bitsBelow n i := by rw [bitsBelow_succ, hb]; simp
      refine ⟨(i + 1, A, d), by show 256 - (i + 1) < 256 - i; omega, ⟨up (by omega), by rw [e]; rfl, trivial⟩, by show i + 1 ≤ 256; omega, ?_⟩
      show Hp w _ _ [own 3 1 (.slice A (bitsBelow n (i + 1)).length d) (bitsBelow n (i + 1)).length (ints (bitsBelow n (i + 1))), _, _] []
      rw [e]
      exact H
  · have hi4 : i = 256 := by have := of_decide_eq_false h; omega
    subst hi4
    exact ⟨A, d, rfl, H.out⟩

theorem ent54 : enters Try.prog 54 = true := by kernel_rfl
theorem lessN_zero {a b : Nat} (ha : a < 2 ^ 256) : (lessN a b == 0) = true ↔ ∀ p, p < 256 → ¬ (a.testBit p = true ∧ b.testBit p = false) := by
  rw [beq_iff_eq]
  constructor
  · intro h p hp hab
    have := testBit_lessN ha b p
    rw [h, hab.1, hab.2] at this; simp at this
  · intro h
    refine set_ext (lessN_lt _ _) (by decide) fun p hp => ?_
    rw [testBit_lessN ha, Nat.zero_testBit]
    have := h p hp
    cases h1 : a.testBit p <;> cases h2 : b.testBit p <;> simp_all
theorem c54 (a b : Nat) (ha : a < 2 ^ 256) (w : World) : Fun Try.prog 54 [sv a, sv b] w fun v w' => v = .bool (lessN a b == 0) ∧ Same w w' := by
  refine fun_of_W (N := 27) Try.func54 ent54 rfl rfl rfl (by simp) ?_
  have H := Hp.start0 w
  refine H.box 24 (sv a) (cs := sc a) rfl ?_
  intro g1 w1 H
  refine H.box 24 (sv b) (cs := sc b) rfl ?_
  intro g2 w2 H
  refine draw_mix (fun w' => Hp w (fun _ => False) w' [blk g2 24 (sc b), blk g1 24 (sc a)] []) fol (by kernel_rfl) (H.same (Keeps.drew _)) ?_
  refine quiet (sv a) (fun w H => H.loadAll 1 rfl agg24 size24 ⟨rfl, rfl⟩) ?_
  refine call_fn (c40 a _) ?_
  rintro v w3 ⟨A, c, rfl, hn⟩
  have H := (H.same (Keeps.drew _))
  refine ⟨.inl (H.same hn.keeps), ?_⟩
  have H := H.addNew hn
  refine quiet (sv b) (fun w H => H.loadAll 0 rfl agg24 size24 ⟨rfl, rfl⟩) ?_
  refine call_fn (c40 b _) ?_
  rintro v w4 ⟨A', c', rfl, hn'⟩
  refine ⟨.inl (H.forget.same hn'.keeps), ?_⟩
  have H := H.addNew hn'
  obtain ⟨g, rfl⟩ := H.ownA 0 rfl (by omega)
  obtain ⟨g', rfl⟩ := H.ownA 1 rfl (by omega)
  refine loop_rule (γ := Nat) _ rfl (fun i => [(7, .int .i64 (i : Int))])
    (fun i w' => (i ≤ 256 ∧ ∀ p, p < i → ¬ (a.testBit p = true ∧ b.testBit p = false)) ∧ Hp w (fun _ => False) w' [own 4 1 (.slice (some ⟨g, 0, none⟩) 256 c') 256 (bls (flagsN b)), own 4 1 (.slice (some ⟨g', 0, none⟩) 256 c) 256 (bls (flagsN a)), blk g2 24 (sc b), blk g1 24 (sc a)] [])
    (fun i => 256 - i) 0 ⟨rfl, trivial⟩ ⟨⟨by omega, by omega⟩, H⟩ ?_
  clear H hn hn'
  rintro i u w5 ⟨⟨hi, hall⟩, H⟩
  refine cond_split (fun h => ?_) (fun h => ?_)
  · have hi4 : i < 256 := by have := of_decide_eq_true h; omega
    refine idxAddr_sl Try.underlying29 size4 i rfl hi4 (o' := i) (by omega) ?_
    refine H.loadOwn 1 rfl agg4 (flagsN_get hi4) ?_
    have next : ¬ (a.testBit i = true ∧ b.testBit i = false) → ∀ p, p < i + 1 → ¬ (a.testBit p = true ∧ b.testBit p = false) := by
      intro hn p hp
      by_cases hpi : p = i
      · subst hpi; exact hn
      · exact hall p (by omega)
    refine cond_split (fun ht => ?_) (fun ht => ?_)
    · refine cond_yes ht ?_
      refine cond_yes ht ?_
      refine idxAddr_sl Try.underlying29 size4 i rfl hi4 (o' := i) (by omega) ?_
      refine cond_yes ht ?_
      refine H.loadOwn 0 rfl agg4 (flagsN_get hi4) ?_
      refine cond_yes ht ?_
      refine cond_yes ht ?_
      refine cond_split (fun hb => ?_) (fun hb => ?_)
      · have hb' : b.testBit i = false := by simpa using hb
        refine ⟨congrArg Value.bool ?_, H.keeps⟩
        symm
        rw [Bool.eq_false_iff]
        intro hz
        exact (lessN_zero ha).1 hz i hi4 ⟨ht, hb'⟩
      · exact ⟨i + 1, by omega, ⟨up (by omega), trivial⟩, ⟨by omega, next fun hh => by rw [hh.2] at hb; cases hb⟩, H⟩
    · refine cond_no ht ?_
      refine cond_no ht ?_
      refine cond_no ht ?_
      refine cond_no ht ?_
      refine cond_no ht ?_
      refine cond_no rfl ?_
      exact ⟨i + 1, by omega, ⟨up (by omega), trivial⟩, ⟨by omega, next fun hh => by rw [hh.1] at ht; cases ht⟩, H⟩
  · have hi4 : i = 256 := by have := of_decide_eq_false h; omega
    subst hi4
    refine ⟨congrArg Value.bool ?_, H.keeps⟩
    symm
    exact (lessN_zero ha).2 hall

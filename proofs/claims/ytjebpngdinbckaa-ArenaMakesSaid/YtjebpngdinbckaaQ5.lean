import Derived.Test.YtjebpngdinbckaaQ4
/- Cubes: texts that are read. -/
namespace Go.Proofs.Ytjebpngdinbckaa
open Go.Dk
attribute [local irreducible] IntKind.wrap

theorem size_str (l : List UInt8) : (⟨l.toArray⟩ : ByteArray).size = l.length := by simp [ByteArray.size]
def codeB (b : UInt8) : Nat := if b == 48 then 0 else if b == 49 then 1 else 2
theorem decode_at {l : List UInt8} {i : Nat} (hi : i < l.length) (ha : l[i].toNat < 128) : Utf8.decode ⟨l.toArray⟩ i = (l[i].toNat, 1) := by
  have := decode_ascii ⟨l.toArray⟩ i (by rw [size_str]; exact hi) ha
  exact this
theorem decode_ge {l : List UInt8} {i : Nat} (hi : i < l.length) (ha : ¬ l[i].toNat < 128) : 128 ≤ (Utf8.decode ⟨l.toArray⟩ i).1 :=
  (decode_high ⟨l.toArray⟩ i (by rw [size_str]; exact hi) (show 128 ≤ l[i].toNat from Nat.le_of_not_lt ha)).1
theorem mkSet_or {f : Nat → Bool} {i : Nat} (hf : f i = true) : mkSet f (i + 1) = mkSet f i ||| 2 ^ i := by
  apply Nat.eq_of_testBit_eq; intro j
  rw [Nat.testBit_or, testBit_mkSet, testBit_mkSet, Nat.testBit_two_pow]
  by_cases h : i = j
  · subst h; simp [hf]
  · have : j < i + 1 ↔ j < i := by omega
    simp [h, this]
theorem mkSet_not {f : Nat → Bool} {i : Nat} (hf : f i = false) : mkSet f (i + 1) = mkSet f i := by
  rw [mkSet, hf]; rfl
theorem ok_step {l : List UInt8} {i : Nat} (hall : ∀ j (h : j < l.length), j < i → okCh l[j] = true) {hi : i < l.length} (hb : okCh l[i] = true) : ∀ j (h : j < l.length), j < i + 1 → okCh l[j] = true := by
  intro j hj hj'
  by_cases hji : j = i
  · subst hji; exact hb
  · exact hall j hj (by omega)
theorem take_code {l : List UInt8} {i : Nat} (hi : i < l.length) : (l.take (i + 1)).map codeB = (l.take i).map codeB ++ [codeB l[i]] := by
  rw [List.take_succ_eq_append_getElem hi, List.map_append]; rfl
theorem parseOk_of {l : List UInt8} (h8 : l.length ≤ 8) (h : ∀ j (hj : j < l.length), okCh l[j] = true) : parseOk l = true := by
  unfold parseOk
  simp only [Bool.and_eq_true, decide_eq_true_eq, List.all_eq_true]
  refine ⟨h8, fun x hx => ?_⟩
  obtain ⟨j, hj, rfl⟩ := List.mem_iff_getElem.1 hx
  exact h j hj
theorem parseOk_bad {l : List UInt8} {i : Nat} (hi : i < l.length) (h : okCh l[i] = false) : parseOk l = false := by
  rw [Bool.eq_false_iff]
  intro hp
  unfold parseOk at hp
  simp only [Bool.and_eq_true, decide_eq_true_eq, List.all_eq_true] at hp
  rw [hp.2 _ (List.getElem_mem hi)] at h
  cases h
theorem okCh_bad {b : UInt8} (h0 : ¬ (b.toNat : Int) = 48) (h1 : ¬ (b.toNat : Int) = 49) (h2 : ¬ (b.toNat : Int) = 45) : okCh b = false := by
  rw [Bool.eq_false_iff]
  intro h
  unfold okCh at h
  simp only [Bool.or_eq_true, beq_iff_eq] at h
  rcases h with (rfl | rfl) | rfl
  · exact h2 rfl
  · exact h0 rfl
  · exact h1 rfl
theorem codes_le {l : List UInt8} : ∀ x ∈ l.map codeB, x ≤ 2 := by
  intro x hx
  obtain ⟨b, _, rfl⟩ := List.mem_map.1 hx
  unfold codeB; split
  · omega
  · split <;> omega
theorem okCh_cases {b : UInt8} (h : okCh b = true) : b = 45 ∨ b = 48 ∨ b = 49 := by
  unfold okCh at h
  simp only [Bool.or_eq_true, beq_iff_eq] at h
  rcases h with (h | h) | h
  · exact .inl h
  · exact .inr (.inl h)
  · exact .inr (.inr h)
theorem cubeM_code {l : List UInt8} (h : parseOk l = true) : cubeM (l.map codeB) = parseM l l.length := by
  unfold parseOk at h
  simp only [Bool.and_eq_true, decide_eq_true_eq, List.all_eq_true] at h
  unfold cubeM parseM
  rw [List.length_map]
  refine mkSet_congr fun i hi => ?_
  have hb := okCh_cases (h.2 _ (List.getElem_mem hi))
  have e1 : (l.map codeB).getD i 2 = codeB l[i] := by simp [List.getD_eq_getElem?_getD, hi]
  have e2 : l.getD i 45 = l[i] := by simp [List.getD_eq_getElem?_getD, hi]
  rw [e1, e2]
  rcases hb with hb | hb | hb <;> rw [hb] <;> rfl
theorem cubeV_code {l : List UInt8} (h : parseOk l = true) : cubeV (l.map codeB) = parseV l l.length := by
  unfold parseOk at h
  simp only [Bool.and_eq_true, decide_eq_true_eq, List.all_eq_true] at h
  unfold cubeV parseV
  rw [List.length_map]
  refine mkSet_congr fun i hi => ?_
  have hb := okCh_cases (h.2 _ (List.getElem_mem hi))
  have e1 : (l.map codeB).getD i 2 = codeB l[i] := by simp [List.getD_eq_getElem?_getD, hi]
  have e2 : l.getD i 45 = l[i] := by simp [List.getD_eq_getElem?_getD, hi]
  rw [e1, e2]
  rcases hb with hb | hb | hb <;> rw [hb] <;> rfl
theorem ent63 : enters Try.prog 63 = true := by kernel_rfl
def parseC (l : List UInt8) : Value := if parseOk l then cv (parseM l l.length) (parseV l l.length) else cv 0 0
theorem c63 (l : List UInt8) (hl : l.length < 9223372036854775808) (w : World) : Fun Try.prog 63 [strV l] w fun r w' => r = .tuple #[parseC l, .bool (parseOk l)] ∧ Same w w' := by
  refine fun_of_W (N := 44) Try.func63 ent63 rfl rfl rfl (by simp) ?_
  have H := Hp.start0 w
  have hsz := size_str l
  refine H.alloc 46 (cs := cc 0 0) zero46 rfl ?_
  clear H
  intro g1 w1 H
  refine len_str Try.underlying9 ?_
  refine cond_dec (fun h3 => ?_) (fun h3 => ?_)
  · refine build46z ?_
    refine H.storeCube 0 rfl ?_
    clear H
    intro w5 H
    refine H.loadAll 0 rfl agg46 size46 ?_
    refine ⟨rfl, ?_⟩
    have e : parseOk l = false := by unfold parseOk; rw [decide_eq_false (by omega)]; rfl
    refine ⟨?_, H.keeps⟩
    simp only [parseC, e, Bool.false_eq_true, if_false]
    rfl
  · have H := H.ownNil 3 1
    refine loop_rule (γ := Nat × Option Addr × Nat) _ rfl (fun (i, A, c) => [(5, .int .i64 (i : Int)), (4, .slice A i c)])
      (fun (i, A, c) w' => (i ≤ l.length ∧ ∀ j (h : j < l.length), j < i → okCh l[j] = true) ∧ Hp w (fun _ => False) w' [own 3 1 (.slice A i c) i (ints ((l.take i).map codeB)), blk g1 46 (cc 0 0)] []) (fun (i, _, _) => l.length - i) (0, none, 0) ⟨rfl, rfl, trivial⟩ ⟨⟨by omega, by intro j _ hj; omega⟩, H⟩ ?_
    clear H
    rintro ⟨i, A, c⟩ u w8 ⟨⟨hi, hall⟩, H⟩
    refine len_str Try.underlying9 ?_
    refine cond_dec (fun h4 => ?_) (fun h4 => ?_)
    · refine idx_strL (by omega) Try.underlying9 ?_
      refine cond_dec (fun h6 => ?_) (fun h6 => ?_)
      · refine cond_yes (decide_eq_true (by assumption)) ?_
        iterate 3 refine cond_yes (decide_eq_true (by assumption)) ?_
        refine cond_yes rfl ?_
        refine idx_strL (by omega) Try.underlying9 ?_
        refine conv_i64 (by kernel_rfl) Try.underlying3 (by omega) (by omega) ?_
        refine H.buildOne T32 rfl ?_
        clear H
        intro g15 w15 H
        refine H.appendOne 0 T32 rfl rfl (by omega) (by omega) ?_
        clear H
        intro A16 k16 w16 H
        have hb : l[i] = 48 := UInt8.toNat_inj.1 (show l[i].toNat = 48 by omega)
        refine ⟨(i + 1, _, _), by show l.length - (i + 1) < l.length - i; omega, ⟨up (by omega), rfl, trivial⟩, ⟨by show i + 1 ≤ l.length; omega, ok_step hall (by rw [hb]; rfl)⟩, ?_⟩
        have e : IntKind.i64.wrap ((l[i].toNat : Int) - 48) = ((codeB l[i] : Nat) : Int) := by rw [wrap_i64_in (by omega) (by omega), hb]; rfl
        rw [e, ints_snoc, ← take_code (by omega)] at H
        exact H
      · refine cond_no (decide_eq_false (by assumption)) ?_
        refine cond_no (decide_eq_false (by assumption)) ?_
        refine idx_strL (by omega) Try.underlying9 ?_
        iterate 2 refine cond_no (decide_eq_false (by assumption)) ?_
        refine cond_dec (fun h23 => ?_) (fun h23 => ?_)
        · refine idx_strL (by omega) Try.underlying9 ?_
          refine conv_i64 (by kernel_rfl) Try.underlying3 (by omega) (by omega) ?_
          refine H.buildOne T32 rfl ?_
          clear H
          intro g26 w26 H
          refine H.appendOne 0 T32 rfl rfl (by omega) (by omega) ?_
          clear H
          intro A27 k27 w27 H
          have hb : l[i] = 49 := UInt8.toNat_inj.1 (show l[i].toNat = 49 by omega)
          refine ⟨(i + 1, _, _), by show l.length - (i + 1) < l.length - i; omega, ⟨up (by omega), rfl, trivial⟩, ⟨by show i + 1 ≤ l.length; omega, ok_step hall (by rw [hb]; rfl)⟩, ?_⟩
          have e : IntKind.i64.wrap ((l[i].toNat : Int) - 48) = ((codeB l[i] : Nat) : Int) := by rw [wrap_i64_in (by omega) (by omega), hb]; rfl
          rw [e, ints_snoc, ← take_code (by omega)] at H
          exact H
        · refine idx_strL (by omega) Try.underlying9 ?_
          refine cond_dec (fun h30 => ?_) (fun h30 => ?_)
          · refine H.buildOne T32 rfl ?_
            clear H
            intro g31 w31 H
            refine H.appendOne 0 T32 rfl rfl (by omega) (by omega) ?_
            clear H
            intro A32 k32 w32 H
            have hb : l[i] = 45 := UInt8.toNat_inj.1 (show l[i].toNat = 45 by omega)
            refine ⟨(i + 1, _, _), by show l.length - (i + 1) < l.length - i; omega, ⟨up (by omega), rfl, trivial⟩, ⟨by show i + 1 ≤ l.length; omega, ok_step hall (by rw [hb]; rfl)⟩, ?_⟩
            have e : (2 : Int) = ((codeB l[i] : Nat) : Int) := by rw [hb]; rfl
            rw [e, ints_snoc, ← take_code (by omega)] at H
            exact H
          · refine build46z ?_
            refine H.storeCube 1 rfl ?_
            clear H
            intro w35 H
            refine H.loadAll 1 rfl agg46 size46 ?_
            refine ⟨rfl, ?_⟩
            have e : parseOk l = false := parseOk_bad (i := i) (by omega) (okCh_bad h6 h23 h30)
            refine ⟨?_, H.keeps⟩
            simp only [parseC, e, Bool.false_eq_true, if_false]
            rfl
    · obtain rfl : i = l.length := by omega
      rw [List.take_length] at H
      have hok : parseOk l = true := parseOk_of (by omega) fun j hj => hall j hj hj
      have hlm : (l.map codeB).length = l.length := List.length_map ..
      have hc := c163 (l.map codeB) (by omega) codes_le A c w8 (by rw [hlm]; exact own_Sl (H.get 0 rfl))
      rw [hlm] at hc
      refine call_fn hc ?_
      rintro _ w9 ⟨rfl, hk⟩
      replace H := H.same hk
      clear hk
      rw [cubeM_code hok, cubeV_code hok]
      refine H.storeCube 1 rfl ?_
      clear H
      intro w2 H
      refine H.loadAll 1 rfl agg46 size46 ?_
      refine ⟨rfl, ?_⟩
      refine ⟨?_, H.keeps⟩
      simp only [parseC, hok, if_true]
      rfl
theorem ent62 : enters Try.prog 62 = true := by kernel_rfl
theorem c62 (l : List UInt8) (hl : l.length < 9223372036854775808) (w : World) : Fun Try.prog 62 [strV l] w fun r w' => r = .tuple #[parseC l, .int .i64 (if parseOk l then 0 else 2)] ∧ Same w w' := by
  refine fun_of_W (N := 44) Try.func62 ent62 rfl rfl rfl (by simp) ?_
  have H := Hp.start0 w
  have hsz := size_str l
  refine H.alloc 46 (cs := cc 0 0) zero46 rfl ?_
  clear H
  intro g1 w1 H
  refine len_str Try.underlying9 ?_
  refine cond_dec (fun h3 => ?_) (fun h3 => ?_)
  · refine build46z ?_
    refine H.storeCube 0 rfl ?_
    clear H
    intro w5 H
    refine H.loadAll 0 rfl agg46 size46 ?_
    refine ⟨rfl, ?_⟩
    have e : parseOk l = false := by unfold parseOk; rw [decide_eq_false (by omega)]; rfl
    refine ⟨?_, H.keeps⟩
    simp only [parseC, e, Bool.false_eq_true, if_false]
    rfl
  · refine H.alloc 46 (cs := cc 0 0) zero46 rfl ?_
    clear H
    intro g9 w9 H
    refine H.rangeStr Try.underlying9 ?_
    clear H
    intro g10 w10 H
    refine loop_rule (γ := Nat) _ rfl (fun i => [])
      (fun i w' => (i ≤ l.length ∧ ∀ j (h : j < l.length), j < i → okCh l[j] = true) ∧ Hp w (fun _ => False) w' [iterS g10 ⟨l.toArray⟩ i, blk g9 46 (cc (parseM l i) (parseV l i)), blk g1 46 (cc 0 0)] []) (fun i => l.length - i) 0 trivial ⟨⟨by omega, by intro j _ hj; omega⟩, H⟩ ?_
    clear H
    rintro i u w11 ⟨⟨hi, hall⟩, H⟩
    refine H.nextStr 0 rfl (fun hp w12 H => ?_) (fun hp => ?_)
    · have hp' : i < l.length := by omega
      have hlt8 : parseM l i < 256 := mkSet_le8 (fun j => l.getD j 45 != 45) (show i ≤ 8 by omega)
      have hlt8v : parseV l i < 256 := mkSet_le8 (fun j => l.getD j 45 == 49) (show i ≤ 8 by omega)
      have hp2 : 2 ^ i < 256 := by have := two_pow8 (show i < 8 by omega); omega
      have hgd : l.getD i 45 = l[i] := by simp [List.getD_eq_getElem?_getD, hp']
      by_cases ha : l[i].toNat < 128
      · rw [decode_at hp' ha] at H ⊢
        refine cond_yes rfl ?_
        refine cond_dec (fun h4 => ?_) (fun h4 => ?_)
        · refine H.draw fol (by kernel_rfl) ?_
          clear H
          intro w5 H
          refine quiet _ (fun w H => fieldAddr_by (fa46_1 _) ⟨rfl, rfl⟩) ?_
          refine quiet _ (fun w H => H.load 1 rfl agg5 rfl ⟨rfl, rfl⟩) ?_
          refine quiet _ (fun w H => bin_one_shl_u8 (by omega) ⟨rfl, rfl⟩) ?_
          refine quiet _ (fun w H => bin_or_u8 (by first | assumption | omega | (repeat' (first | assumption | refine and_lt8 ?_ _ | refine xor_lt8 ?_ ?_ | refine or_lt8 ?_ ?_))) (by first | assumption | omega | (repeat' (first | assumption | refine and_lt8 ?_ _ | refine xor_lt8 ?_ ?_ | refine or_lt8 ?_ ?_))) ⟨rfl, rfl⟩) ?_
          refine quiet _ (fun w H => fieldAddr_by (fa46_1 _) ⟨rfl, rfl⟩) ?_
          refine H.store 1 rfl size5 (Nat.le_of_ble_eq_true rfl) rfl ?_
          clear H
          intro w7 H
          refine ⟨.inr rfl, ?_⟩
          refine H.draw fol (by kernel_rfl) ?_
          clear H
          intro w13 H
          refine quiet _ (fun w H => fieldAddr_by (fa46_0 _) ⟨rfl, rfl⟩) ?_
          refine quiet _ (fun w H => H.load 1 rfl agg5 rfl ⟨rfl, rfl⟩) ?_
          refine quiet _ (fun w H => bin_one_shl_u8 (by omega) ⟨rfl, rfl⟩) ?_
          refine quiet _ (fun w H => bin_or_u8 (by first | assumption | omega | (repeat' (first | assumption | refine and_lt8 ?_ _ | refine xor_lt8 ?_ ?_ | refine or_lt8 ?_ ?_))) (by first | assumption | omega | (repeat' (first | assumption | refine and_lt8 ?_ _ | refine xor_lt8 ?_ ?_ | refine or_lt8 ?_ ?_))) ⟨rfl, rfl⟩) ?_
          refine quiet _ (fun w H => fieldAddr_by (fa46_0 _) ⟨rfl, rfl⟩) ?_
          refine H.store 1 rfl size5 (Nat.le_of_ble_eq_true rfl) rfl ?_
          clear H
          intro w19 H
          refine ⟨.inr rfl, ?_⟩
          have hb : l[i] = 49 := UInt8.toNat_inj.1 (show l[i].toNat = 49 from Int.ofNat_inj.1 h4)
          refine ⟨i + 1, by omega, trivial, ⟨by omega, ok_step hall (by rw [hb]; rfl)⟩, ?_⟩
          have e1 : parseM l (i + 1) = parseM l i ||| 2 ^ i := mkSet_or (by rw [hgd, hb]; rfl)
          have e2 : parseV l (i + 1) = parseV l i ||| 2 ^ i := mkSet_or (by rw [hgd, hb]; rfl)
          rw [e1, e2]
          rw [cc_set1 rfl, cc_set0 rfl] at H
          exact H
        · refine cond_dec (fun h14 => ?_) (fun h14 => ?_)
          · refine H.draw fol (by kernel_rfl) ?_
            clear H
            intro w15 H
            refine quiet _ (fun w H => fieldAddr_by (fa46_0 _) ⟨rfl, rfl⟩) ?_
            refine quiet _ (fun w H => H.load 1 rfl agg5 rfl ⟨rfl, rfl⟩) ?_
            refine quiet _ (fun w H => bin_one_shl_u8 (by omega) ⟨rfl, rfl⟩) ?_
            refine quiet _ (fun w H => bin_or_u8 (by first | assumption | omega | (repeat' (first | assumption | refine and_lt8 ?_ _ | refine xor_lt8 ?_ ?_ | refine or_lt8 ?_ ?_))) (by first | assumption | omega | (repeat' (first | assumption | refine and_lt8 ?_ _ | refine xor_lt8 ?_ ?_ | refine or_lt8 ?_ ?_))) ⟨rfl, rfl⟩) ?_
            refine quiet _ (fun w H => fieldAddr_by (fa46_0 _) ⟨rfl, rfl⟩) ?_
            refine H.store 1 rfl size5 (Nat.le_of_ble_eq_true rfl) rfl ?_
            clear H
            intro w6 H
            refine ⟨.inr rfl, ?_⟩
            have hb : l[i] = 48 := UInt8.toNat_inj.1 (show l[i].toNat = 48 from Int.ofNat_inj.1 h14)
            refine ⟨i + 1, by omega, trivial, ⟨by omega, ok_step hall (by rw [hb]; rfl)⟩, ?_⟩
            have e1 : parseM l (i + 1) = parseM l i ||| 2 ^ i := mkSet_or (by rw [hgd, hb]; rfl)
            have e2 : parseV l (i + 1) = parseV l i := mkSet_not (by rw [hgd, hb]; rfl)
            rw [e1, e2]
            rw [cc_set0 rfl] at H
            exact H
          · refine cond_dec (fun h20 => ?_) (fun h20 => ?_)
            · have hb : l[i] = 45 := UInt8.toNat_inj.1 (show l[i].toNat = 45 from Int.ofNat_inj.1 h20)
              refine ⟨i + 1, by omega, trivial, ⟨by omega, ok_step hall (by rw [hb]; rfl)⟩, ?_⟩
              have e1 : parseM l (i + 1) = parseM l i := mkSet_not (by rw [hgd, hb]; rfl)
              have e2 : parseV l (i + 1) = parseV l i := mkSet_not (by rw [hgd, hb]; rfl)
              rw [e1, e2]
              exact H
            · refine build46z ?_
              refine H.storeCube 2 rfl ?_
              clear H
              intro w23 H
              refine H.loadAll 2 rfl agg46 size46 ?_
              refine ⟨rfl, ?_⟩
              have e : parseOk l = false := parseOk_bad (i := i) hp' (okCh_bad h14 h4 h20)
              refine ⟨?_, H.keeps⟩
              simp only [parseC, e, Bool.false_eq_true, if_false]
              rfl
      · have hge := decode_ge hp' ha
        refine cond_yes rfl ?_
        iterate 3 refine cond_no (beq_eq_false_iff_ne.2 (by omega)) ?_
        refine build46z ?_
        refine H.storeCube 2 rfl ?_
        clear H
        intro w8 H
        refine H.loadAll 2 rfl agg46 size46 ?_
        refine ⟨rfl, ?_⟩
        have e : parseOk l = false := parseOk_bad (i := i) hp' (okCh_bad (by omega) (by omega) (by omega))
        refine ⟨?_, H.keeps⟩
        simp only [parseC, e, Bool.false_eq_true, if_false]
        rfl
    · obtain rfl : i = l.length := by omega
      refine cond_no rfl ?_
      refine H.loadAll 1 rfl agg46 size46 ?_
      refine H.storeCube 2 rfl ?_
      clear H
      intro w5 H
      refine H.loadAll 2 rfl agg46 size46 ?_
      refine ⟨rfl, ?_⟩
      have hok : parseOk l = true := parseOk_of (by omega) fun j hj => hall j hj hj
      refine ⟨?_, H.keeps⟩
      simp only [parseC, hok, if_true]
      rfl

import Derived.Test.YtjebpngdinbckaaPart6
/- Lemmas, part 7: what the proof of the row uses. -/
section
/- ReduceBest. -/
namespace Go.Proofs.Ytjebpngdinbckaa
open Go.Dk
attribute [local irreducible] IntKind.wrap

theorem any_snocI {l : List Int} {i : Nat} {x : Int} (p : Int → Bool) (hx : l[i]? = some x) : (l.take (i + 1)).any p = ((l.take i).any p || p x) := by
  rw [List.take_add_one, hx]; simp
theorem mem_snocI {l : List Int} {i : Nat} {x : Int} (k : Int) (hx : l[i]? = some x) : decide (k ∈ l.take (i + 1)) = (decide (k ∈ l.take i) || (k == x)) := by
  rw [List.take_add_one, hx, Bool.eq_iff_iff]
  simp
theorem ent126 : enters Try.prog 126 = true := by kernel_rfl
theorem c126 (R : Mat) (v1 : Value) (ks : List Int) (B : Option Addr) (cb : Nat) (w : World) (hl : R.length ≤ 1000000000) (hlr : ∀ r ∈ R, r.length ≤ 1000000000) (hkl : ks.length ≤ 1000000000) (h1 : MatAt w v1 R) (hs : Sl w (.slice B ks.length cb) 1 ks.length (intsI ks)) :
    Fun Try.prog 126 [v1, .slice B ks.length cb] w fun v w' => v = .bool (solvesB R ks) ∧ Same w w' := by
  refine fun_of_W (N := 47) Try.func126 ent126 rfl rfl rfl (by simp) ?_
  have H := Hp.start0 w
  obtain ⟨A, ca, va, rfl, ha, hra⟩ := h1.openM
  refine cut_rule (γ := Unit) _ rfl (fun _ => []) (fun _ w' => Hp.cl H w') ⟨(), trivial, H⟩ ?_
  rintro ⟨⟩ u w0 H1
  replace H : Hp _ _ _ _ _ := H1
  clear H1
  refine cut_rule (γ := Unit) _ rfl (fun _ => []) (fun _ w' => solvesB R ks = true ∧ Hp w (fun _ => False) w' [] []) ?_ ?_
  · refine loop_rule (γ := Nat) _ rfl (fun i => [(5, .int .i64 (i : Int))]) (fun i w' => (i ≤ R.length ∧ solvesB (R.take i) ks = true) ∧ Hp w (fun _ => False) w' [] []) (fun i => R.length - i) 0 ⟨rfl, trivial⟩ ⟨⟨Nat.zero_le _, by simp [solvesB]⟩, H⟩ ?_
    clear H
    rintro i u w1 ⟨⟨hi, hyes⟩, H⟩
    replace H : Hp _ _ _ _ _ := H
    refine len_sl Try.underlying89 ?_
    refine cond_dec (fun h7 => ?_) (fun h7 => ?_)
    · obtain ⟨x, hx⟩ : ∃ x, R[i]? = some x := ⟨_, List.getElem?_eq_getElem (by omega)⟩
      obtain ⟨g0, o0, rfl⟩ := ha.A (by omega)
      obtain ⟨Bx, cx, hget, hsx⟩ := hra i x hx
      have hxl := hlr x (List.mem_of_getElem? hx)
      have hsn := all_snocM (fun r => r.any fun k => decide (k ∈ ks)) hx
      refine cut_rule (γ := Unit) _ rfl (fun _ => []) (fun _ w' => (x.any fun k => decide (k ∈ ks)) = true ∧ Hp w (fun _ => False) w' [] []) ?_ ?_
      · refine cut_rule (γ := Unit) _ rfl (fun _ => [(6, .bool false)]) (fun _ w' => Hp w (fun _ => False) w' [] []) ⟨(), ⟨rfl, trivial⟩, H⟩ ?_
        clear H
        rintro ⟨⟩ u w2 H
        replace H : Hp _ _ _ _ _ := H
        refine cut_rule (γ := Unit) _ rfl (fun _ => [(6, .bool (x.any fun k => decide (k ∈ ks)))]) (fun _ w' => Hp w (fun _ => False) w' [] []) ?_ ?_
        · refine loop_rule (γ := Nat) _ rfl (fun j => [(7, .int .i64 (j : Int)), (6, .bool ((x.take j).any fun k => decide (k ∈ ks)))]) (fun j w' => j ≤ x.length ∧ Hp w (fun _ => False) w' [] []) (fun j => x.length - j) 0 ⟨rfl, rfl, trivial⟩ ⟨Nat.zero_le _, H⟩ ?_
          clear H
          rintro j u w3 ⟨hj, H⟩
          replace H : Hp _ _ _ _ _ := H
          refine idxAddr_sl Try.underlying89 (s := 1) size32 i rfl (by omega) (o' := o0 + i) (by omega) ?_
          refine H.loadSl (i := i) ha aggrow _ rfl hget ?_
          refine len_sl Try.underlying32 ?_
          refine cond_dec (fun h8 => ?_) (fun h8 => ?_)
          · obtain ⟨k, hk⟩ : ∃ k, x[j]? = some k := ⟨_, List.getElem?_eq_getElem (by omega)⟩
            obtain ⟨g2, o2, rfl⟩ := hsx.A (by omega)
            have hgk : (intsI x)[j]? = some (.int .i64 k) := by rw [intsI, List.getElem?_map, hk]; rfl
            have hsj := any_snocI (fun k => decide (k ∈ ks)) hk
            refine cut_rule (γ := Unit) _ rfl (fun _ => [(6, .bool ((x.take (j + 1)).any fun k => decide (k ∈ ks)))]) (fun _ w' => Hp w (fun _ => False) w' [] []) ?_ ?_
            · rw [hsj]
              generalize ((x.take j).any fun k => decide (k ∈ ks)) = b0
              refine loop_rule (γ := Nat) _ rfl (fun m => [(8, .int .i64 (m : Int)), (6, .bool (b0 || decide (k ∈ ks.take m)))]) (fun m w' => m ≤ ks.length ∧ Hp w (fun _ => False) w' [] []) (fun m => ks.length - m) 0 ⟨rfl, by simp; rfl, trivial⟩ ⟨Nat.zero_le _, H⟩ ?_
              clear H
              rintro m u w4 ⟨hm, H⟩
              replace H : Hp _ _ _ _ _ := H
              refine len_sl Try.underlying32 ?_
              refine cond_dec (fun h9 => ?_) (fun h9 => ?_)
              · obtain ⟨s, hks⟩ : ∃ s, ks[m]? = some s := ⟨_, List.getElem?_eq_getElem (by omega)⟩
                obtain ⟨g3, o3, rfl⟩ := hs.A (by omega)
                have hgs : (intsI ks)[m]? = some (.int .i64 s) := by rw [intsI, List.getElem?_map, hks]; rfl
                have hsm := mem_snocI k hks
                refine cut_rule (γ := Unit) _ rfl (fun _ => [(6, .bool (b0 || decide (k ∈ ks.take (m + 1))))]) (fun _ w' => Hp w (fun _ => False) w' [] []) ?_ ?_
                · rw [hsm, ← Bool.or_assoc]
                  generalize (b0 || decide (k ∈ ks.take m)) = b1
                  refine H.draw fol (by kernel_rfl) ?_
                  clear H
                  intro w5 H
                  refine cond_split (fun hb => ?_) (fun hb => ?_)
                  · iterate 12 refine cond_yes (by assumption) ?_
                    exact ⟨(), ⟨by rw [hb]; rfl, trivial⟩, H⟩
                  · iterate 2 refine cond_no (by assumption) ?_
                    refine quiet _ (fun w H => idxAddr_sl Try.underlying89 (s := 1) size32 i rfl (by omega) (o' := o0 + i) (by omega) ⟨rfl, rfl⟩) ?_
                    refine cond_no (by assumption) ?_
                    refine quiet _ (fun w H => H.loadSl (i := i) ha aggrow _ rfl hget ⟨rfl, rfl⟩) ?_
                    iterate 2 refine cond_no (by assumption) ?_
                    refine quiet _ (fun w H => idxAddr_sl Try.underlying32 (s := 1) size3 j rfl (by omega) (o' := o2 + j) (by omega) ⟨rfl, rfl⟩) ?_
                    refine cond_no (by assumption) ?_
                    refine quiet _ (fun w H => H.loadSl (i := j) hsx agg3 _ rfl hgk ⟨rfl, rfl⟩) ?_
                    iterate 3 refine cond_no (by assumption) ?_
                    refine quiet _ (fun w H => idxAddr_sl Try.underlying32 (s := 1) size3 m rfl (by omega) (o' := o3 + m) (by omega) ⟨rfl, rfl⟩) ?_
                    refine cond_no (by assumption) ?_
                    refine quiet _ (fun w H => H.loadSl (i := m) hs agg3 _ rfl hgs ⟨rfl, rfl⟩) ?_
                    iterate 2 refine cond_no (by assumption) ?_
                    exact ⟨(), ⟨by rw [hb]; rfl, trivial⟩, H⟩
                · clear H
                  rintro ⟨⟩ u w5 H
                  exact ⟨m + 1, by show ks.length - (m + 1) < ks.length - m; omega, ⟨up (by omega), rfl, trivial⟩, by show m + 1 ≤ ks.length; omega, H⟩
              · have e : ks.take m = ks := List.take_of_length_le (by omega)
                exact ⟨(), ⟨congrArg (fun l : List Int => Value.bool (b0 || decide (k ∈ l))) e, trivial⟩, H⟩
            · clear H
              rintro ⟨⟩ u w5 H
              exact ⟨j + 1, by show x.length - (j + 1) < x.length - j; omega, ⟨up (by omega), rfl, trivial⟩, by show j + 1 ≤ x.length; omega, H⟩
          · have e : x.take j = x := List.take_of_length_le (by omega)
            exact ⟨(), ⟨congrArg (fun l : List Int => Value.bool (l.any fun k => decide (k ∈ ks))) e, trivial⟩, H⟩
        · clear H
          rintro ⟨⟩ u w3 H
          replace H : Hp _ _ _ _ _ := H
          refine cond_split (fun hb => ?_) (fun hb => ?_)
          · refine ⟨congrArg Value.bool ?_, H.keeps⟩
            symm
            rw [Bool.eq_false_iff]
            intro hh
            have := List.all_eq_true.1 hh x (List.mem_of_getElem? hx)
            rw [this] at hb; cases hb
          · exact ⟨(), trivial, by simpa using hb, H⟩
      · clear H
        rintro ⟨⟩ u w2 ⟨hx1, H⟩
        replace H : Hp _ _ _ _ _ := H
        refine ⟨i + 1, by show R.length - (i + 1) < R.length - i; omega, ⟨up (by omega), trivial⟩, ⟨by show i + 1 ≤ R.length; omega, ?_⟩, H⟩
        show (R.take (i + 1)).all _ = true
        rw [hsn, hx1, Bool.and_true]; exact hyes
    · have e : R.take i = R := List.take_of_length_le (by omega)
      rw [e] at hyes
      exact ⟨(), trivial, hyes, H⟩
  · clear H
    rintro ⟨⟩ u w1 ⟨hyes, H⟩
    replace H : Hp _ _ _ _ _ := H
    exact ⟨by rw [hyes]; rfl, H.keeps⟩
end Go.Proofs.Ytjebpngdinbckaa
end

section
/- ReduceBest. -/
namespace Go.Proofs.Ytjebpngdinbckaa
open Go.Dk
attribute [local irreducible] IntKind.wrap

theorem bits_div (ch c : Nat) : (((ch / 2 ^ c : Nat) : Int) % 2 == 1) = ch.testBit c := by
  have e : ((ch / 2 ^ c : Nat) : Int) % 2 = ((ch / 2 ^ c % 2 : Nat) : Int) := by omega
  rw [e, Nat.testBit_eq_decide_div_mod_eq, Bool.eq_iff_iff]
  simp only [beq_iff_eq, decide_eq_true_eq]
  omega
theorem choice_len (ch n : Nat) : (choiceI ch n).length ≤ n := by
  have := bitsBelow_le ch n
  simpa [choiceI] using this
theorem ent92 : enters Try.prog 92 = true := by kernel_rfl
theorem c92 (n : Nat) (hn : n ≤ 20) (R : Mat) (v1 : Value) (w : World) (hl : R.length ≤ 1000000000) (hlr : ∀ r ∈ R, r.length ≤ 1000000000) (h1 : MatAt w v1 R) :
    Fun Try.prog 92 [.int .i64 (n : Int), v1] w fun v w' => ∃ b : Int, v = .int .i64 b ∧ IsBest n R b ∧ Same w w' := by
  refine fun_of_W (N := 55) Try.func92 ent92 rfl rfl rfl (by simp) ?_
  have H := Hp.start0 w
  obtain ⟨A, ca, hv⟩ := h1.form
  subst hv
  have hp : ∀ k, k ≤ 20 → 2 ^ k ≤ 1048576 := fun k hk => Nat.pow_le_pow_right (n := 2) (by decide) hk
  refine cut_rule (γ := Unit) _ rfl (fun _ => []) (fun _ w' => Hp.cl H w') ⟨(), trivial, H⟩ ?_
  rintro ⟨⟩ u w0 H1
  replace H : Hp _ _ _ _ _ := H1
  clear H1
  refine cut_rule (γ := Unit) _ rfl (fun _ => [(5, .int .i64 1)]) (fun _ w' => Hp.cl H w') ⟨(), ⟨rfl, trivial⟩, H⟩ ?_
  rintro ⟨⟩ u w0 H1
  replace H : Hp _ _ _ _ _ := H1
  clear H1
  refine cut_rule (γ := Unit) _ rfl (fun _ => [(5, .int .i64 ((2 ^ n : Nat) : Int))]) (fun _ w' => Hp.cl H w') ?_ ?_
  · refine loop_rule (γ := Nat) _ rfl (fun i => [(6, .int .i64 (i : Int)), (5, .int .i64 ((2 ^ i : Nat) : Int))]) (fun i w' => i ≤ n ∧ Hp.cl H w') (fun i => n - i) 0 ⟨rfl, rfl, trivial⟩ ⟨Nat.zero_le _, H⟩ ?_
    rintro i u w1 ⟨hi, H1⟩
    refine cond_dec (fun h7 => ?_) (fun h7 => ?_)
    · have hpi := hp i (by omega)
      have e : IntKind.i64.wrap (((2 ^ i : Nat) : Int) * 2) = ((2 ^ (i + 1) : Nat) : Int) := by
        generalize hq : 2 ^ i = q at hpi
        rw [Nat.pow_succ, hq, wrap_i64_in (by omega) (by omega)]; omega
      exact ⟨i + 1, by show n - (i + 1) < n - i; omega, ⟨up (by omega), congrArg (Value.int .i64) e, trivial⟩, by show i + 1 ≤ n; omega, H1⟩
    · have : i = n := by omega
      subst this
      exact ⟨(), ⟨rfl, trivial⟩, H1⟩
  rintro ⟨⟩ u w1 H1
  replace H : Hp _ _ _ _ _ := H1
  clear H1
  refine cut_rule (γ := Unit) _ rfl (fun _ => [(7, .int .i64 (-1))]) (fun _ w' => Hp w (fun _ => False) w' [] []) ⟨(), ⟨rfl, trivial⟩, H⟩ ?_
  clear H
  rintro ⟨⟩ u w1 H
  replace H : Hp _ _ _ _ _ := H
  have hpn := hp n hn
  refine cut_rule (γ := Int) _ rfl (fun b => [(7, .int .i64 b)]) (fun b w' => IsBest n R b ∧ Hp w (fun _ => False) w' [] []) ?_ ?_
  · generalize hq : 2 ^ n = q at hpn
    refine loop_rule (γ := Nat × Int) _ rfl (fun (ch, b) => [(8, .int .i64 (ch : Int)), (7, .int .i64 b)]) (fun (ch, b) w' => (ch ≤ q ∧ BestInv n R ch b) ∧ Hp w (fun _ => False) w' [] []) (fun (ch, _) => q - ch) (0, -1) ⟨rfl, rfl, trivial⟩ ⟨⟨Nat.zero_le _, bestInv_zero n R⟩, H⟩ ?_
    clear H
    rintro ⟨ch, b⟩ u w2 ⟨⟨hc, hb⟩, H⟩
    replace H : Hp w (fun _ => False) w2 [] [] := H
    refine cond_dec (fun h7 => ?_) (fun h7 => ?_)
    · refine cut_rule (γ := Int) _ rfl (fun b => [(7, .int .i64 b)]) (fun b w' => BestInv n R (ch + 1) b ∧ Hp w (fun _ => False) w' [] []) ?_ ?_
      · refine cut_rule (γ := Unit) _ rfl (fun _ => [(9, .slice none 0 0)]) (fun _ w' => Hp w (fun _ => False) w' [] []) ⟨(), ⟨rfl, trivial⟩, H⟩ ?_
        clear H
        rintro ⟨⟩ u w3 H
        replace H : Hp w (fun _ => False) w3 [] [] := H
        refine cut_rule (γ := Unit) _ rfl (fun _ => [(10, .int .i64 (ch : Int))]) (fun _ w' => Hp w (fun _ => False) w' [] []) ⟨(), ⟨rfl, trivial⟩, H⟩ ?_
        clear H
        rintro ⟨⟩ u w3 H
        replace H : Hp w (fun _ => False) w3 [] [] := H
        have H2 := H.ownNil 3 1
        clear H
        refine cut_rule (γ := Option Addr × Nat) _ rfl (fun (B, d) => [(9, .slice B (choiceI ch n).length d)]) (fun (B, d) w' => Hp w (fun _ => False) w' [own 3 1 (.slice B (choiceI ch n).length d) (choiceI ch n).length (intsI (choiceI ch n))] []) ?_ ?_
        · have hz : ((ch / 2 ^ 0 : Nat) : Int) = ch := by simp
          refine loop_rule (γ := Nat × Option Addr × Nat) _ rfl (fun (c, B, d) => [(11, .int .i64 (c : Int)), (10, .int .i64 ((ch / 2 ^ c : Nat) : Int)), (9, .slice B (choiceI ch c).length d)])
            (fun (c, B, d) w' => c ≤ n ∧ Hp w (fun _ => False) w' [own 3 1 (.slice B (choiceI ch c).length d) (choiceI ch c).length (intsI (choiceI ch c))] []) (fun (c, _) => n - c) (0, none, 0) ⟨rfl, by rw [hz]; rfl, rfl, trivial⟩ ⟨Nat.zero_le _, H2⟩ ?_
          clear H2
          rintro ⟨c, B, d⟩ u w4 ⟨hcn, H⟩
          replace H : Hp _ _ _ _ _ := H
          refine cond_dec (fun h8 => ?_) (fun h8 => ?_)
          · have hsn := choice_succ ch c
            have hcl := choice_len ch c
            have hbd := bits_div ch c
            have hdd : ch / 2 ^ (c + 1) = ch / 2 ^ c / 2 := by rw [Nat.pow_succ, Nat.div_div_eq_div_mul]
            have hle : ch / 2 ^ c ≤ ch := Nat.div_le_self _ _
            have hq2 : ((ch / 2 ^ c : Nat) : Int) / 2 = ((ch / 2 ^ (c + 1) : Nat) : Int) := by
              rw [hdd]
              generalize ch / 2 ^ c = q2
              omega
            have hq2b : ((ch / 2 ^ c : Nat) : Int) < 9223372036854775808 := by
              generalize ch / 2 ^ c = q2 at hle
              omega
            refine cut_rule (γ := Option Addr × Nat) _ rfl (fun (B, d) => [(10, .int .i64 ((ch / 2 ^ (c + 1) : Nat) : Int)), (9, .slice B (choiceI ch (c + 1)).length d)]) (fun (B, d) w' => Hp w (fun _ => False) w' [own 3 1 (.slice B (choiceI ch (c + 1)).length d) (choiceI ch (c + 1)).length (intsI (choiceI ch (c + 1)))] []) ?_ ?_
            · refine cut_rule (γ := Option Addr × Nat) _ rfl (fun (B, d) => [(9, .slice B (choiceI ch (c + 1)).length d)]) (fun (B, d) w' => Hp w (fun _ => False) w' [own 3 1 (.slice B (choiceI ch (c + 1)).length d) (choiceI ch (c + 1)).length (intsI (choiceI ch (c + 1)))] []) ?_ ?_
              · refine bin_rem_i64 (Int.natCast_nonneg _) (by decide) ?_
                refine cond_split (fun hb => ?_) (fun hb => ?_)
                · rw [hbd] at hb
                  rw [if_pos hb] at hsn
                  refine H.buildOne T32 rfl ?_
                  clear H
                  intro g11 w11 H
                  refine H.appendOne 0 T32 rfl rfl (by omega) (by omega) ?_
                  clear H
                  intro B2 d2 w12 H
                  have e1 : (choiceI ch (c + 1)).length = (choiceI ch c).length + 1 := by rw [hsn]; simp
                  have e2 : intsI (choiceI ch (c + 1)) = intsI (choiceI ch c) ++ [.int .i64 (c : Int)] := by rw [hsn, intsI_snoc]
                  exact ⟨(B2, d2), ⟨by rw [e1]; rfl, trivial⟩, by rw [e1, e2]; exact H⟩
                · rw [hbd] at hb
                  rw [if_neg (by rw [hb]; decide), List.append_nil] at hsn
                  exact ⟨(B, d), ⟨by rw [hsn]; rfl, trivial⟩, by rw [hsn]; exact H⟩
              · clear H
                rintro ⟨B2, d2⟩ u w5 H
                replace H : Hp _ _ _ _ _ := H
                refine bin_quo_i64 (Int.natCast_nonneg _) hq2b (by decide) ?_
                exact ⟨(B2, d2), ⟨congrArg (Value.int .i64) hq2, rfl, trivial⟩, H⟩
            · clear H
              rintro ⟨B2, d2⟩ u w5 H
              exact ⟨(c + 1, B2, d2), by show n - (c + 1) < n - c; omega, ⟨up (by omega), rfl, rfl, trivial⟩, by show c + 1 ≤ n; omega, H⟩
          · have : c = n := by omega
            subst this
            exact ⟨(B, d), ⟨rfl, trivial⟩, H⟩
        · clear H2
          rintro ⟨B, d⟩ u w4 H
          replace H : Hp _ _ _ _ _ := H
          have hcl := choice_len ch n
          have hge := bestInv_ge hb
          refine cut_rule (γ := Unit) _ rfl (fun _ => [(51, .bool ((decide (b < 0) || decide (((choiceI ch n).length : Int) < b)) && solvesB R (choiceI ch n)))]) (fun _ w' => Hp.cl H w') ?_ ?_
          · refine cond_dec (fun h5 => ?_) (fun h5 => ?_)
            · refine cond_yes (decide_eq_true (by assumption)) ?_
              iterate 3 refine cond_yes (decide_eq_true (by assumption)) ?_
              iterate 3 refine cond_yes rfl ?_
              refine call_fn (c126 R _ (choiceI ch n) _ _ _ hl hlr (by omega) (h1.same H.keeps) (own_Sl (H.get 0 rfl))) ?_ 
              rintro _ w14 ⟨rfl, hk14⟩ 
              replace H := H.same hk14 
              clear hk14
              refine cond_yes rfl ?_
              exact ⟨(), ⟨by rw [decide_eq_true h5, Bool.true_or, Bool.true_and]; rfl, trivial⟩, H⟩
            · refine cond_no (decide_eq_false (by assumption)) ?_
              refine len_sl Try.underlying32 ?_
              iterate 3 refine cond_no (decide_eq_false (by assumption)) ?_
              refine cond_dec (fun h22 => ?_) (fun h22 => ?_)
              · refine cond_yes (decide_eq_true (by assumption)) ?_
                refine cond_yes (decide_eq_true (by assumption)) ?_
                refine call_fn (c126 R _ (choiceI ch n) _ _ _ hl hlr (by omega) (h1.same H.keeps) (own_Sl (H.get 0 rfl))) ?_ 
                rintro _ w25 ⟨rfl, hk25⟩ 
                replace H := H.same hk25 
                clear hk25
                refine cond_yes (decide_eq_true (by assumption)) ?_
                exact ⟨(), ⟨by rw [decide_eq_true h22, Bool.or_true, Bool.true_and]; rfl, trivial⟩, H⟩
              · refine cond_no (decide_eq_false (by assumption)) ?_
                iterate 2 refine cond_no (decide_eq_false (by assumption)) ?_
                exact ⟨(), ⟨by rw [decide_eq_false h5, decide_eq_false h22]; rfl, trivial⟩, H⟩
          · rintro ⟨⟩ u w5 H1
            replace H : Hp _ _ _ _ _ := H1
            clear H1
            refine cond_split (fun hd => ?_) (fun hd => ?_)
            · simp only [Bool.and_eq_true, Bool.or_eq_true, decide_eq_true_eq] at hd
              refine len_sl Try.underlying32 ?_
              exact ⟨_, ⟨rfl, trivial⟩, bestInv_yes hb hd.1 (solvesB_iff.1 hd.2), H.forget⟩
            · refine ⟨b, ⟨rfl, trivial⟩, bestInv_no hb ?_, H.forget⟩
              rw [Bool.and_eq_false_iff] at hd
              rcases hd with hd | hd
              · simp only [Bool.or_eq_false_iff, decide_eq_false_iff_not] at hd
                exact .inl (by omega)
              · exact .inr fun hs => by rw [solvesB_iff.2 hs] at hd; cases hd
      · clear H
        rintro b2 u w3 ⟨hb2, H⟩
        exact ⟨(ch + 1, b2), by show q - (ch + 1) < q - ch; omega, ⟨up (by omega), rfl, trivial⟩, ⟨by show ch + 1 ≤ q; omega, hb2⟩, H⟩
    · have : ch = q := by omega
      subst this
      rw [← hq] at hb
      exact ⟨b, ⟨rfl, trivial⟩, bestInv_end hb, H⟩
  clear H
  rintro b u w2 ⟨hb, H⟩
  replace H : Hp _ _ _ _ _ := H
  exact ⟨b, rfl, hb, H.keeps⟩
end Go.Proofs.Ytjebpngdinbckaa
end

section
/- ReduceBest. -/
namespace Go.Proofs.Ytjebpngdinbckaa
open Go.Dk
attribute [local irreducible] IntKind.wrap

theorem ent93 : enters Try.prog 93 = true := by kernel_rfl
theorem c93 (cols : Int) (R : Mat) (v1 : Value) (ks : List Int) (B : Option Addr) (cb : Nat) (w : World) (hl : R.length ≤ 1000000000) (hlr : ∀ r ∈ R, r.length ≤ 1000000000) (hkl : ks.length ≤ 1000000000) (h1 : MatAt w v1 R) (hs : Sl w (.slice B ks.length cb) 1 ks.length (intsI ks)) :
    Fun Try.prog 93 [mv cols v1, .slice B ks.length cb] w fun v w' => v = .bool (rightB cols R && solvesB R ks) ∧ Same w w' := by
  refine fun_of_W (N := 49) Try.func93 ent93 rfl rfl rfl (by simp) ?_
  have H := Hp.start0 w
  obtain ⟨A, ca, va, rfl, ha, hra⟩ := h1.openM
  refine H.box 91 (mv _ _) (cs := mc _ _) rfl ?_
  clear H
  intro g1 w1 H
  refine H.loadAll 0 rfl agg91 size91 ?_
  refine call_fn (c171 cols R _ _ hl hlr (h1.same H.keeps)) ?_
  rintro _ w2 ⟨rfl, hk⟩
  replace H := H.same hk
  clear hk
  cases hr : rightB cols R with
  | false =>
    refine cond_yes rfl ?_
    exact ⟨rfl, H.keeps⟩
  | true =>
    refine cond_no rfl ?_
    rw [Bool.true_and]
    refine cut_rule (γ := Nat) _ rfl (fun r => [(5, .map (some r))]) (fun r w' => Hp w (fun _ => False) w' [mapR kaI vbB r [], blk g1 91 (mc cols (.slice A R.length ca))] []) ?_ ?_
    · refine H.makeMap kaI vbB ?_
      clear H
      intro r w4 H
      exact ⟨r, ⟨rfl, trivial⟩, H⟩
    clear H
    rintro r u w3 H
    replace H : Hp _ _ _ _ _ := H
    refine cut_rule (γ := List (Int × Bool)) _ rfl (fun _ => []) (fun l w' => lOk l ks ∧ Hp w (fun _ => False) w' [mapR kaI vbB r l, blk g1 91 (mc cols (.slice A R.length ca))] []) ?_ ?_
    · refine len_sl Try.underlying32 ?_
      refine loop_rule (γ := Nat × List (Int × Bool)) _ rfl (fun (i, _) => [(19, .int .i64 (i : Int))]) (fun (i, l) w' => (i ≤ ks.length ∧ lOk l (ks.take i)) ∧ Hp w (fun _ => False) w' [mapR kaI vbB r l, blk g1 91 (mc cols (.slice A R.length ca))] []) (fun (i, _) => ks.length - i) (0, []) ⟨rfl, trivial⟩ ⟨⟨Nat.zero_le _, fun c => rfl⟩, H⟩ ?_
      clear H
      rintro ⟨i, l⟩ u w4 ⟨⟨hi, hlk⟩, H⟩
      replace H : Hp _ _ _ _ _ := H
      refine cond_dec (fun h7 => ?_) (fun h7 => ?_)
      · obtain ⟨k, hk⟩ : ∃ k, ks[i]? = some k := ⟨_, List.getElem?_eq_getElem (by omega)⟩
        obtain ⟨g2, o2, rfl⟩ := hs.A (by omega)
        have hgk : (intsI ks)[i]? = some (.int .i64 k) := by rw [intsI, List.getElem?_map, hk]; rfl
        have htk : ks.take (i + 1) = ks.take i ++ [k] := by rw [List.take_add_one, hk]; rfl
        refine idxAddr_sl Try.underlying32 (s := 1) size3 i rfl (by omega) (o' := o2 + i) (by omega) ?_
        refine H.loadSl (i := i) hs agg3 _ rfl hgk ?_
        refine H.mapSet 0 rfl W210 k true ?_
        clear H
        intro w5 H
        exact ⟨(i + 1, aset l k true), by show ks.length - (i + 1) < ks.length - i; omega, ⟨up (by omega), trivial⟩, ⟨by show i + 1 ≤ ks.length; omega, by rw [htk]; exact hlk.add k⟩, H⟩
      · have e : ks.take i = ks := List.take_of_length_le (by omega)
        rw [e] at hlk
        exact ⟨l, trivial, hlk, H⟩
    clear H
    rintro l u w4 ⟨hlk, H⟩
    replace H : Hp _ _ _ _ _ := H
    refine cut_rule (γ := Unit) _ rfl (fun _ => []) (fun _ w' => solvesB R ks = true ∧ Hp w (fun _ => False) w' [mapR kaI vbB r l, blk g1 91 (mc cols (.slice A R.length ca))] []) ?_ ?_
    · refine fieldAddr_by (fa91_1 _) ?_
      refine H.load 1 rfl agg89 rfl ?_
      refine len_sl Try.underlying89 ?_
      refine loop_rule (γ := Nat) _ rfl (fun i => [(29, .int .i64 (i : Int))]) (fun i w' => (i ≤ R.length ∧ solvesB (R.take i) ks = true) ∧ Hp w (fun _ => False) w' [mapR kaI vbB r l, blk g1 91 (mc cols (.slice A R.length ca))] []) (fun i => R.length - i) 0 ⟨rfl, trivial⟩ ⟨⟨Nat.zero_le _, by simp [solvesB]⟩, H⟩ ?_
      clear H
      rintro i u w5 ⟨⟨hi, hyes⟩, H⟩
      replace H : Hp _ _ _ _ _ := H
      refine cond_dec (fun h7 => ?_) (fun h7 => ?_)
      · obtain ⟨x, hx⟩ : ∃ x, R[i]? = some x := ⟨_, List.getElem?_eq_getElem (by omega)⟩
        obtain ⟨g0, o0, rfl⟩ := ha.A (by omega)
        obtain ⟨Bx, cx, hget, hsx⟩ := hra i x hx
        have hxl := hlr x (List.mem_of_getElem? hx)
        have hsn := all_snocM (fun r => r.any fun k => decide (k ∈ ks)) hx
        refine cut_rule (γ := Unit) _ rfl (fun _ => []) (fun _ w' => (x.any fun k => decide (k ∈ ks)) = true ∧ Hp w (fun _ => False) w' [mapR kaI vbB r l, blk g1 91 (mc cols (.slice (some ⟨g0, o0, none⟩) R.length ca))] []) ?_ ?_
        · refine cut_rule (γ := Unit) _ rfl (fun _ => [(9, .slice Bx x.length cx)]) (fun _ w' => Hp.cl H w') ?_ ?_
          · refine idxAddr_sl Try.underlying89 (s := 1) size32 i rfl (by omega) (o' := o0 + i) (by omega) ?_
            refine H.loadSl (i := i) ha aggrow _ rfl hget ?_
            exact ⟨(), ⟨rfl, trivial⟩, H⟩
          rintro ⟨⟩ u w6 H1
          replace H : Hp _ _ _ _ _ := H1
          clear H1
          refine cut_rule (γ := Unit) _ rfl (fun _ => [(10, .bool false)]) (fun _ w' => Hp.cl H w') ⟨(), ⟨rfl, trivial⟩, H⟩ ?_
          rintro ⟨⟩ u w6 H1
          replace H : Hp _ _ _ _ _ := H1
          clear H1
          refine cut_rule (γ := Unit) _ rfl (fun _ => [(10, .bool (x.any fun k => decide (k ∈ ks)))]) (fun _ w' => Hp w (fun _ => False) w' [mapR kaI vbB r l, blk g1 91 (mc cols (.slice (some ⟨g0, o0, none⟩) R.length ca))] []) ?_ ?_
          · refine len_sl Try.underlying32 ?_
            refine loop_rule (γ := Nat) _ rfl (fun j => [(35, .int .i64 (j : Int)), (10, .bool ((x.take j).any fun k => decide (k ∈ ks)))]) (fun j w' => j ≤ x.length ∧ Hp w (fun _ => False) w' [mapR kaI vbB r l, blk g1 91 (mc cols (.slice (some ⟨g0, o0, none⟩) R.length ca))] []) (fun j => x.length - j) 0 ⟨rfl, rfl, trivial⟩ ⟨Nat.zero_le _, H⟩ ?_
            clear H
            rintro j u w7 ⟨hj, H⟩
            replace H : Hp _ _ _ _ _ := H
            refine cond_dec (fun h8 => ?_) (fun h8 => ?_)
            · obtain ⟨k, hk⟩ : ∃ k, x[j]? = some k := ⟨_, List.getElem?_eq_getElem (by omega)⟩
              obtain ⟨g2, o2, rfl⟩ := hsx.A (by omega)
              have hgk : (intsI x)[j]? = some (.int .i64 k) := by rw [intsI, List.getElem?_map, hk]; rfl
              have hsj := any_snocI (fun k => decide (k ∈ ks)) hk
              refine cut_rule (γ := Unit) _ rfl (fun _ => [(10, .bool ((x.take (j + 1)).any fun k => decide (k ∈ ks)))]) (fun _ w' => Hp w (fun _ => False) w' [mapR kaI vbB r l, blk g1 91 (mc cols (.slice (some ⟨g0, o0, none⟩) R.length ca))] []) ?_ ?_
              · refine idxAddr_sl Try.underlying32 (s := 1) size3 j rfl (by omega) (o' := o2 + j) (by omega) ?_
                refine H.loadSl (i := j) hsx agg3 _ rfl hgk ?_
                rw [hsj]
                generalize ((x.take j).any fun k => decide (k ∈ ks)) = b0
                refine cond_split (fun hb => ?_) (fun hb => ?_)
                · refine cond_yes hb ?_
                  refine cond_yes hb ?_
                  refine cond_yes hb ?_
                  exact ⟨(), ⟨by rw [hb]; rfl, trivial⟩, H⟩
                · refine cond_no hb ?_
                  refine cond_no hb ?_
                  refine H.lookup 0 rfl W210 k ?_
                  rw [hlk k]
                  by_cases hm : k ∈ ks
                  · rw [if_pos hm]
                    refine cond_no hb ?_
                    exact ⟨(), ⟨by rw [hb, decide_eq_true hm]; rfl, trivial⟩, H⟩
                  · rw [if_neg hm]
                    refine cond_no hb ?_
                    exact ⟨(), ⟨by rw [hb, decide_eq_false hm]; rfl, trivial⟩, H⟩
              · clear H
                rintro ⟨⟩ u w8 H
                exact ⟨j + 1, by show x.length - (j + 1) < x.length - j; omega, ⟨up (by omega), rfl, trivial⟩, by show j + 1 ≤ x.length; omega, H⟩
            · have e : x.take j = x := List.take_of_length_le (by omega)
              exact ⟨(), ⟨congrArg (fun l : List Int => Value.bool (l.any fun k => decide (k ∈ ks))) e, trivial⟩, H⟩
          · clear H
            rintro ⟨⟩ u w7 H
            replace H : Hp _ _ _ _ _ := H
            refine cond_split (fun hb => ?_) (fun hb => ?_)
            · refine ⟨congrArg Value.bool ?_, H.keeps⟩
              symm
              rw [Bool.eq_false_iff]
              intro hh
              have := List.all_eq_true.1 hh x (List.mem_of_getElem? hx)
              rw [this] at hb; cases hb
            · exact ⟨(), trivial, by simpa using hb, H⟩
        · clear H
          rintro ⟨⟩ u w6 ⟨hx1, H⟩
          replace H : Hp _ _ _ _ _ := H
          refine ⟨i + 1, by show R.length - (i + 1) < R.length - i; omega, ⟨up (by omega), trivial⟩, ⟨by show i + 1 ≤ R.length; omega, ?_⟩, H⟩
          show (R.take (i + 1)).all _ = true
          rw [hsn, hx1, Bool.and_true]; exact hyes
      · have e : R.take i = R := List.take_of_length_le (by omega)
        rw [e] at hyes
        exact ⟨(), trivial, hyes, H⟩
    · clear H
      rintro ⟨⟩ u w5 ⟨hyes, H⟩
      replace H : Hp _ _ _ _ _ := H
      exact ⟨by rw [hyes]; rfl, H.keeps⟩
/-- A covering's least number of columns, before and behind. -/
theorem best_end {n : Nat} {R : Mat} (hR : RightM n R) {a b : Int} (ha : IsBest n R a) (hb : IsBest n (endS n (R, [])).1 b) : a = if b < 0 then -1 else b + ((risen n (endS n (R, [])).2).length : Int) := by
  have hi := end_inv hR
  have h1 := hi.best b hb
  rw [← risen_len hi.nodup hi.rng] at h1
  exact best_unique ha h1
theorem best_sign {n : Nat} {R : Mat} {b : Int} (h : IsBest n R b) : b = -1 ∨ 0 ≤ b := by
  rcases h with ⟨rfl, _⟩ | ⟨S, _, _, rfl, _⟩
  · exact .inl rfl
  · exact .inr (Int.natCast_nonneg _)
theorem best_le {n : Nat} {R : Mat} {b : Int} (h : IsBest n R b) : b ≤ n := by
  rcases h with ⟨rfl, _⟩ | ⟨S, hS, _, rfl, _⟩
  · omega
  · have := len_sub (a := S) (b := (List.range n).map fun k : Nat => (k : Int)) hS.nodup fun k hk => by
      have := hS.rng k hk
      exact List.mem_map.2 ⟨k.toNat, List.mem_range.2 (by omega), by omega⟩
    simp at this
    omega
theorem law15 (cols : Int) (R : Mat) (v1 : Value) (w : World) (hm : MatArg w v1 R) : Fun Try.prog 15 [mv cols v1] w fun v w' => v = .bool true ∧ Same w w' := by
  refine fun_of_W (N := 78) Try.func15 (by kernel_rfl) rfl rfl rfl (by simp) ?_
  have H := startM hm.mat (fun g hg => hg)
  obtain ⟨A, ca, hv1⟩ := hm.mat.form
  subst hv1
  refine H.box 91 (mv _ _) (cs := mc _ _) rfl ?_
  clear H
  intro g1 w1 H
  refine cut_rule (γ := Unit) _ rfl (fun _ => []) (fun _ w' => (greatB cols R = false ∧ cols ≤ 9 ∧ rightB cols R = true) ∧ Hp.cl H w') ?_ ?_
  · refine H.loadAll 0 rfl agg91 size91 ?_
    refine call_fn (c79 cols R _ _ hm.len (hm.mat.same H.keeps)) ?_
    rintro _ w2 ⟨rfl, hk⟩
    replace H := H.same hk
    clear hk
    cases hg : greatB cols R with
    | true => iterate 12 refine cond_yes rfl ?_
              refine call_fn (c80 _) ?_ 
              rintro _ w15 ⟨rfl, hk15⟩ 
              replace H := H.same hk15 
              clear hk15
              exact ⟨rfl, H.keeps⟩
    | false =>
      obtain ⟨hl30, hr100, _⟩ := great_no hg
      have hl : R.length ≤ 1000000000 := by omega
      have hlr : ∀ r ∈ R, r.length ≤ 1000000000 := fun r hr => by have := hr100 r hr; omega
      cases hr : rightB cols R with
      | true =>
        refine cond_no rfl ?_
        refine fieldAddr_by (fa91_0 _) ?_
        refine cond_no rfl ?_
        refine H.load 0 rfl agg3 rfl ?_
        iterate 2 refine cond_no rfl ?_
        refine cond_dec (fun h9 => ?_) (fun h9 => ?_)
        · refine cond_yes (decide_eq_true (by assumption)) ?_
          iterate 5 refine cond_yes (decide_eq_true (by assumption)) ?_
          refine cond_yes rfl ?_
          refine call_fn (c80 _) ?_ 
          rintro _ w17 ⟨rfl, hk17⟩ 
          replace H := H.same hk17 
          clear hk17
          exact ⟨rfl, H.keeps⟩
        · refine fieldAddr_by (fa91_0 _) ?_
          refine cond_no (decide_eq_false (by assumption)) ?_
          refine H.load 0 rfl agg3 rfl ?_
          refine cond_no (decide_eq_false (by assumption)) ?_
          refine fieldAddr_by (fa91_1 _) ?_
          refine cond_no (decide_eq_false (by assumption)) ?_
          refine H.load 0 rfl agg89 rfl ?_
          refine cond_no (decide_eq_false (by assumption)) ?_
          refine call_fn (c84 cols R _ _ hl hlr (H.matAt 0 rfl)) ?_ 
          rintro _ w27 ⟨rfl, hk27⟩ 
          replace H := H.same hk27 
          clear hk27 
          rw [hr]
          iterate 2 refine cond_no (decide_eq_false (by assumption)) ?_
          refine cond_no rfl ?_
          exact ⟨(), trivial, ⟨rfl, by omega, rfl⟩, H⟩
      | false =>
        refine cond_no rfl ?_
        refine fieldAddr_by (fa91_0 _) ?_
        refine cond_no rfl ?_
        refine H.load 0 rfl agg3 rfl ?_
        iterate 2 refine cond_no rfl ?_
        refine cond_dec (fun h9 => ?_) (fun h9 => ?_)
        · refine cond_yes (decide_eq_true (by assumption)) ?_
          iterate 5 refine cond_yes (decide_eq_true (by assumption)) ?_
          refine cond_yes rfl ?_
          refine call_fn (c80 _) ?_ 
          rintro _ w17 ⟨rfl, hk17⟩ 
          replace H := H.same hk17 
          clear hk17
          exact ⟨rfl, H.keeps⟩
        · refine fieldAddr_by (fa91_0 _) ?_
          refine cond_no (decide_eq_false (by assumption)) ?_
          refine H.load 0 rfl agg3 rfl ?_
          refine cond_no (decide_eq_false (by assumption)) ?_
          refine fieldAddr_by (fa91_1 _) ?_
          refine cond_no (decide_eq_false (by assumption)) ?_
          refine H.load 0 rfl agg89 rfl ?_
          refine cond_no (decide_eq_false (by assumption)) ?_
          refine call_fn (c84 cols R _ _ hl hlr (H.matAt 0 rfl)) ?_ 
          rintro _ w27 ⟨rfl, hk27⟩ 
          replace H := H.same hk27 
          clear hk27 
          rw [hr]
          iterate 2 refine cond_no (decide_eq_false (by assumption)) ?_
          refine cond_yes rfl ?_
          refine call_fn (c80 _) ?_ 
          rintro _ w31 ⟨rfl, hk31⟩ 
          replace H := H.same hk31 
          clear hk31
          exact ⟨rfl, H.keeps⟩
  rintro ⟨⟩ u w2 ⟨⟨hg, hc9, hr⟩, H1⟩
  replace H : Hp _ _ _ _ _ := H1
  clear H1
  obtain ⟨hl30, hr100, _⟩ := great_no hg
  have hl : R.length ≤ 1000000000 := by omega
  have hlr : ∀ r ∈ R, r.length ≤ 1000000000 := fun r hr => by have := hr100 r hr; omega
  have hright := rightB_iff.1 hr
  obtain ⟨n, rfl⟩ : ∃ n : Nat, cols = n := ⟨cols.toNat, by have := hright.ge; omega⟩
  have hsm := end_small hright ⟨hl, hlr⟩
  have hR2 := (end_inv hright).right
  have hr2 := rightB_iff.2 hR2
  have hbest := fun a b => best_end (a := a) (b := b) hright
  obtain ⟨e1, e2, e3, e4⟩ := red_yes hr
  have htl := risen_len_le n (endS n (R, [])).2
  have hc89 := c89 n R
  rw [e1, e2, e3, e4] at hc89
  clear e1 e2 e3 e4 hR2
  generalize risen n (endS n (R, [])).2 = tt at hc89 htl hbest
  generalize (endS n (R, [])).1 = rr at hc89 hsm hbest hr2
  refine cut_rule (γ := Option Addr × Nat × Nat × Option Addr × Nat × (Nat → Prop)) _ rfl (fun (B, d, g4, _) => [(3, .slice B tt.length d), (4, .pointer (some ⟨g4, 0, none⟩)), (5, .int .i64 0)])
    (fun (B, d, g4, A4, c4, S') w' => Hp w (fun _ => False) w' [blk g4 91 (mc n (.slice A4 rr.length c4)), own 3 1 (.slice B tt.length d) tt.length (intsI tt), blk g1 91 (mc n (.slice A R.length ca))] [MatR S' (.slice A4 rr.length c4) rr, MatR (fun g => g < w.heap.size) (.slice A R.length ca) R]) ?_ ?_
  · refine H.loadAll 0 rfl agg91 size91 ?_
    refine call_fn (hc89 _ _ _ hl hlr (H.ro 0 rfl) (H.rlt _ (.head _))) ?_
    rintro _ w3 ⟨B, d, v', S', rfl, HR, hS'⟩
    have H2 := H.merge HR fun r hr g hg => by
      rw [List.mem_singleton] at hr
      subst hr
      rcases hS' g hg with h | h
      · exact .inl h
      · exact .inr ⟨_, .head _, h⟩
    clear H HR
    obtain ⟨A1, c1, rfl⟩ := (H2.ro 0 rfl).form
    refine H2.alloc 91 zero91 rfl ?_
    clear H2
    intro g4 w4 H
    refine H.storeAll 0 rfl size91 rfl (fun v hv => mc_one v hv) ?_
    clear H
    intro w5 H
    exact ⟨(B, d, g4, A1, c1, S'), ⟨rfl, rfl, rfl, trivial⟩, H⟩
  clear H
  rintro ⟨B, d, g4, A4, c4, S'⟩ u w3 H
  replace H : Hp w (fun _ => False) w3 [blk g4 91 (mc n (.slice A4 rr.length c4)), own 3 1 (.slice B tt.length d) tt.length (intsI tt), blk g1 91 (mc n (.slice A R.length ca))] [MatR S' (.slice A4 rr.length c4) rr, MatR (fun g => g < w.heap.size) (.slice A R.length ca) R] := H
  refine cut_rule (γ := Unit) _ rfl (fun _ => []) (fun _ w' => Hp.cl H w') ?_ ?_
  · refine cond_no (bne_self_eq_false _) ?_
    refine fieldAddr_by (fa91_0 _) ?_
    refine cond_no (bne_self_eq_false _) ?_
    refine H.load 0 rfl agg3 rfl ?_
    refine cond_no (bne_self_eq_false _) ?_
    refine fieldAddr_by (fa91_0 _) ?_
    refine cond_no (bne_self_eq_false _) ?_
    refine H.load 2 rfl agg3 rfl ?_
    iterate 3 refine cond_no (bne_self_eq_false _) ?_
    refine fieldAddr_by (fa91_0 _) ?_
    refine cond_no (bne_self_eq_false _) ?_
    refine H.load 0 rfl agg3 rfl ?_
    refine cond_no (bne_self_eq_false _) ?_
    refine fieldAddr_by (fa91_1 _) ?_
    refine cond_no (bne_self_eq_false _) ?_
    refine H.load 0 rfl agg89 rfl ?_
    refine cond_no (bne_self_eq_false _) ?_
    refine call_fn (c84 n rr _ _ hsm.1 hsm.2 (H.matAt 0 rfl)) ?_ 
    rintro _ w24 ⟨rfl, hk24⟩ 
    replace H := H.same hk24 
    clear hk24 
    rw [hr2]
    iterate 2 refine cond_no (bne_self_eq_false _) ?_
    refine cond_no rfl ?_
    exact ⟨(), trivial, H⟩
  rintro ⟨⟩ u w4 H1
  replace H : Hp w (fun _ => False) w4 [blk g4 91 (mc n (.slice A4 rr.length c4)), own 3 1 (.slice B tt.length d) tt.length (intsI tt), blk g1 91 (mc n (.slice A R.length ca))] [MatR S' (.slice A4 rr.length c4) rr, MatR (fun g => g < w.heap.size) (.slice A R.length ca) R] := H1
  clear H1
  refine cut_rule (γ := Int × Int) _ rfl (fun (a, b) => [(6, .int .i64 a), (7, .int .i64 b)]) (fun (a, b) w' => (IsBest n R a ∧ IsBest n rr b) ∧ Hp w (fun _ => False) w' [blk g4 91 (mc n (.slice A4 rr.length c4)), own 3 1 (.slice B tt.length d) tt.length (intsI tt), blk g1 91 (mc n (.slice A R.length ca))] [MatR S' (.slice A4 rr.length c4) rr, MatR (fun g => g < w.heap.size) (.slice A R.length ca) R]) ?_ ?_
  · refine H.draw fol (by kernel_rfl) ?_
    clear H
    intro w5 H
    refine quiet _ (fun w H => fieldAddr_by (fa91_0 _) ⟨rfl, rfl⟩) ?_
    refine quiet _ (fun w H => H.load 2 rfl agg3 rfl ⟨rfl, rfl⟩) ?_
    refine quiet _ (fun w H => fieldAddr_by (fa91_1 _) ⟨rfl, rfl⟩) ?_
    refine quiet _ (fun w H => H.load 2 rfl agg89 rfl ⟨rfl, rfl⟩) ?_
    refine call_fn (c92 n (by omega) R _ _ hl hlr (H.matAt 1 rfl)) ?_
    rintro _ w6 ⟨a, rfl, ha, hk⟩
    replace H := H.same hk
    refine ⟨.inl H, ?_⟩
    refine quiet _ (fun w H => fieldAddr_by (fa91_0 _) ⟨rfl, rfl⟩) ?_
    refine quiet _ (fun w H => H.load 0 rfl agg3 rfl ⟨rfl, rfl⟩) ?_
    refine quiet _ (fun w H => fieldAddr_by (fa91_1 _) ⟨rfl, rfl⟩) ?_
    refine quiet _ (fun w H => H.load 0 rfl agg89 rfl ⟨rfl, rfl⟩) ?_
    refine call_fn (c92 n (by omega) rr _ _ hsm.1 hsm.2 (H.matAt 0 rfl)) ?_
    rintro _ w7 ⟨b, rfl, hb, hk2⟩
    replace H := H.same hk2
    refine ⟨.inl H, ?_⟩
    exact ⟨(a, b), ⟨rfl, rfl, trivial⟩, ⟨ha, hb⟩, H⟩
  clear H
  rintro ⟨a, b⟩ u w5 ⟨⟨ha, hb⟩, H⟩
  replace H : Hp _ _ _ _ _ := H
  have hab := hbest a b ha hb
  have hbs := best_sign hb
  have hbl := best_le hb
  have hn9 : n ≤ 9 := by omega
  by_cases hneg : b < 0
  · rw [if_pos hneg] at hab
    have hb1 : b = -1 := by omega
    subst hb1; subst hab
    iterate 5 refine cond_yes rfl ?_
    refine call_fn (c80 _) ?_ 
    rintro _ w11 ⟨rfl, hk11⟩ 
    replace H := H.same hk11 
    clear hk11
    refine cond_yes rfl ?_
    exact ⟨rfl, H.keeps⟩
  · rw [if_neg hneg] at hab
    have hw : IntKind.i64.wrap ((tt.length : Int) + b) = b + (tt.length : Int) := by rw [wrap_i64_in (by omega) (by omega)]; omega
    iterate 3 refine cond_no (decide_eq_false (by omega)) ?_
    refine cond_no (decide_eq_false (by assumption)) ?_
    refine len_sl Try.underlying32 ?_
    refine cond_yes (by rw [hw, hab]; exact beq_self_eq_true _) ?_
    refine call_fn (c80 _) ?_ 
    rintro _ w12 ⟨rfl, hk12⟩ 
    replace H := H.same hk12 
    clear hk12
    refine cond_yes (by rw [hw, hab]; exact beq_self_eq_true _) ?_
    exact ⟨rfl, H.keeps⟩
end Go.Proofs.Ytjebpngdinbckaa
end

section
/- ReduceSolves. -/
namespace Go.Proofs.Ytjebpngdinbckaa
open Go.Dk
attribute [local irreducible] IntKind.wrap

theorem solves_risen {n : Nat} {R : Mat} (hR : RightM n R) {ks : List Int} (h : solvesB (endS n (R, [])).1 ks = true) : solvesB R (risen n (endS n (R, [])).2 ++ ks) = true := by
  have h1 := (end_inv hR).solves ks (solvesB_iff.1 h)
  refine solvesB_iff.2 fun r hr => ?_
  obtain ⟨k, hk, hkS⟩ := h1 r hr
  refine ⟨k, hk, ?_⟩
  rcases List.mem_append.1 hkS with h2 | h2
  · exact List.mem_append_left _ (mem_risen.2 ⟨hR.rng r hr k hk, h2⟩)
  · exact List.mem_append_right _ h2
theorem intsI_append (a b : List Int) : intsI (a ++ b) = intsI a ++ intsI b := by simp [intsI]
theorem intsI_one (l : List Int) : ∀ u ∈ intsI l, u.oneCell' = true := fun u hu => by
  obtain ⟨k, _, rfl⟩ := List.mem_map.1 hu
  rfl
theorem law16 (cols : Int) (R : Mat) (v1 v2 : Value) (ks : List Int) (w : World) (hm : MatArg w v1 R) (hk2 : IntsAt w v2 ks) : Fun Try.prog 16 [mv cols v1, v2] w fun v w' => v = .bool true ∧ Same w w' := by
  obtain ⟨B2, d2, rfl, hkl0, hko, hks⟩ := hk2
  refine fun_of_W (N := 69) Try.func16 (by kernel_rfl) rfl rfl rfl (by simp) ?_
  have H := startM hm.mat (fun g hg => hg)
  obtain ⟨A, ca, hv1⟩ := hm.mat.form
  subst hv1
  refine H.box 91 (mv _ _) (cs := mc _ _) rfl ?_
  clear H
  intro g1 w1 H
  refine cut_rule (γ := Unit) _ rfl (fun _ => []) (fun _ w' => (greatB cols R = false ∧ ks.length ≤ 100) ∧ Hp.cl H w') ?_ ?_
  · refine H.loadAll 0 rfl agg91 size91 ?_
    refine call_fn (c79 cols R _ _ hm.len (hm.mat.same H.keeps)) ?_
    rintro _ w2 ⟨rfl, hk⟩
    replace H := H.same hk
    clear hk
    cases hg : greatB cols R with
    | true => 
      iterate 5 refine cond_yes rfl ?_
      refine call_fn (c80 _) ?_ 
      rintro _ w8 ⟨rfl, hk8⟩ 
      replace H := H.same hk8 
      clear hk8
      exact ⟨rfl, H.keeps⟩
    | false =>
      iterate 2 refine cond_no rfl ?_
      refine len_sl Try.underlying32 ?_
      iterate 2 refine cond_no rfl ?_
      refine cond_dec (fun h8 => ?_) (fun h8 => ?_)
      · refine call_fn (c80 _) ?_ 
        rintro _ w9 ⟨rfl, hk9⟩ 
        replace H := H.same hk9 
        clear hk9
        exact ⟨rfl, H.keeps⟩
      · exact ⟨(), trivial, ⟨rfl, by omega⟩, H⟩
  rintro ⟨⟩ u w2 ⟨⟨hg, hkl⟩, H1⟩
  replace H : Hp _ _ _ _ _ := H1
  clear H1
  obtain ⟨hl30, hr100, _⟩ := great_no hg
  have hl : R.length ≤ 1000000000 := by omega
  have hlr : ∀ r ∈ R, r.length ≤ 1000000000 := fun r hr => by have := hr100 r hr; omega
  refine cut_rule (γ := Option Addr × Nat × Nat × Option Addr × Nat × (Nat → Prop)) _ rfl (fun (B, d, g4, _) => [(5, .slice B (redT cols R).length d), (6, .pointer (some ⟨g4, 0, none⟩)), (7, .int .i64 (redE cols R))])
    (fun (B, d, g4, A4, c4, S') w' => Hp w (fun _ => False) w' [blk g4 91 (mc (redC cols R) (.slice A4 (redR cols R).length c4)), own 3 1 (.slice B (redT cols R).length d) (redT cols R).length (intsI (redT cols R)), blk g1 91 (mc cols (.slice A R.length ca))] [MatR S' (.slice A4 (redR cols R).length c4) (redR cols R), MatR (fun g => g < w.heap.size) (.slice A R.length ca) R]) ?_ ?_
  · refine H.loadAll 0 rfl agg91 size91 ?_
    refine call_fn (c89 cols R _ _ _ hl hlr (H.ro 0 rfl) (H.rlt _ (.head _))) ?_
    rintro _ w3 ⟨B, d, v', S', rfl, HR, hS'⟩
    have H2 := H.merge HR fun r hr g hg => by
      rw [List.mem_singleton] at hr
      subst hr
      rcases hS' g hg with h | h
      · exact .inl h
      · exact .inr ⟨_, .head _, h⟩
    clear H HR
    obtain ⟨A1, c1, rfl⟩ := (H2.ro 0 rfl).form
    refine H2.alloc 91 zero91 rfl ?_
    clear H2
    intro g4 w4 H
    refine H.storeAll 0 rfl size91 rfl (fun v hv => mc_one v hv) ?_
    clear H
    intro w5 H
    exact ⟨(B, d, g4, A1, c1, S'), ⟨rfl, rfl, rfl, trivial⟩, H⟩
  clear H
  rintro ⟨B, d, g4, A4, c4, S'⟩ u w3 H
  replace H : Hp w (fun _ => False) w3 [blk g4 91 (mc (redC cols R) (.slice A4 (redR cols R).length c4)), own 3 1 (.slice B (redT cols R).length d) (redT cols R).length (intsI (redT cols R)), blk g1 91 (mc cols (.slice A R.length ca))] [MatR S' (.slice A4 (redR cols R).length c4) (redR cols R), MatR (fun g => g < w.heap.size) (.slice A R.length ca) R] := H
  cases hr : rightB cols R with
  | false =>
    obtain ⟨e1, e2, e3, e4⟩ := red_no hr
    rw [e1, e2, e3] at H
    rw [e1, e4]
    refine cond_yes rfl ?_
    refine len_sl Try.underlying32 ?_
    refine cond_yes rfl ?_
    refine call_fn (c80 _) ?_ 
    rintro _ w8 ⟨rfl, hk8⟩ 
    replace H := H.same hk8 
    clear hk8
    refine cond_yes rfl ?_
    exact ⟨rfl, H.keeps⟩
  | true =>
    have hright := rightB_iff.1 hr
    obtain ⟨n, rfl⟩ : ∃ n : Nat, cols = n := ⟨cols.toNat, by have := hright.ge; omega⟩
    have hsm := end_small hright ⟨hl, hlr⟩
    have hR2 := (end_inv hright).right
    have hr2 := rightB_iff.2 hR2
    have hn4 : n ≤ 4000 := by have := hright.le; omega
    obtain ⟨e1, e2, e3, e4⟩ := red_yes hr
    have htl := risen_len_le n (endS n (R, [])).2
    have hsol := solves_risen (ks := ks) hright
    have hend := end_end (cols := n) (R := R)
    rw [e1, e2, e3] at H
    rw [e1, e4]
    generalize risen n (endS n (R, [])).2 = tt at H htl hsol ⊢
    generalize (endS n (R, [])).1 = rr at H hsm hr2 hsol hend hR2
    clear e1 e2 e3 e4
    obtain ⟨f1, f2, f3, f4⟩ := red_yes hr2
    rw [hend] at f1 f2
    have f1' : redT n rr = [] := by rw [f1]; unfold risen; simp
    have hc89 := c89 n rr
    rw [f1', f2, f3, f4] at hc89
    refine cond_no rfl ?_
    refine cut_rule (γ := Unit) _ rfl (fun _ => []) (fun _ w' => Hp w (fun _ => False) w' [blk g4 91 (mc n (.slice A4 rr.length c4)), own 3 1 (.slice B tt.length d) tt.length (intsI tt), blk g1 91 (mc n (.slice A R.length ca))] [MatR S' (.slice A4 rr.length c4) rr, MatR (fun g => g < w.heap.size) (.slice A R.length ca) R]) ?_ ?_
    · refine H.draw fol (by kernel_rfl) ?_
      clear H
      intro w5 H
      refine quiet _ (fun w H => H.loadAll 0 rfl agg91 size91 ⟨rfl, rfl⟩) ?_
      refine call_fn (c93 n rr _ ks B2 d2 _ hsm.1 hsm.2 (by omega) (H.matAt 0 rfl) (hks.same H.keeps)) ?_
      rintro _ w6 ⟨rfl, hk⟩
      replace H := H.same hk
      clear hk
      rw [hr2, Bool.true_and]
      refine ⟨.inl H, ?_⟩
      cases hs : solvesB rr ks with
      | false => iterate 10 refine cond_no rfl ?_
                 exact ⟨(), trivial, H⟩
      | true =>
        have hsR := hsol hs
        refine cond_yes rfl ?_
        refine quiet _ (fun w H => H.loadAll 2 rfl agg91 size91 ⟨rfl, rfl⟩) ?_
        refine cond_yes rfl ?_
        refine Hp.buildNil H T32 ?_ 
        clear H 
        intro g10 w10 H 
        refine ⟨.inl H.forget, ?_⟩
        iterate 2 refine cond_yes rfl ?_
        refine H.appendSl 0 T32 rfl (own_Sl (H.get 2 rfl)) (intsI_one tt) (by omega) (by omega) ?_ 
        clear H 
        intro A13 k13 w13 H 
        refine ⟨.inl H.forget, ?_⟩
        iterate 2 refine cond_yes rfl ?_
        refine H.appendSl 0 T32 rfl (hks.same H.keeps) (intsI_one ks) (by omega) (by omega) ?_ 
        clear H 
        intro A16 k16 w16 H 
        refine ⟨.inl H.forget, ?_⟩
        refine cond_yes rfl ?_
        have ho := own_Sl (H.get 0 rfl)
        have el : 0 + tt.length + ks.length = (tt ++ ks).length := by rw [List.length_append]; omega
        have ei : ([] : List Value) ++ intsI tt ++ intsI ks = intsI (tt ++ ks) := by rw [intsI_append]; rfl
        rw [el, ei] at ho
        rw [el]
        refine call_fn (c93 n R _ (tt ++ ks) _ _ _ hl hlr (by rw [List.length_append]; omega) (H.matAt 1 rfl) ho) ?_
        rintro _ w60 ⟨rfl, hk⟩
        replace H := H.same hk
        clear hk
        rw [hr, hsR, Bool.true_and]
        refine ⟨.inl H.forget, ?_⟩
        replace H := H.forget
        iterate 2 refine cond_yes rfl ?_
        refine cond_no rfl ?_
        exact ⟨(), trivial, H⟩
    clear H
    rintro ⟨⟩ u w5 H
    replace H : Hp _ _ _ _ _ := H
    refine cut_rule (γ := Option Addr × Nat × Nat × Option Addr × Nat × (Nat → Prop)) _ rfl (fun (B, d, g9, _) => [(8, .slice B 0 d), (9, .pointer (some ⟨g9, 0, none⟩)), (10, .int .i64 0)])
      (fun (B8, d8, g9, A9, c9, S9) w' => Hp w (fun _ => False) w' [blk g9 91 (mc n (.slice A9 rr.length c9)), own 3 1 (.slice B8 0 d8) 0 [], blk g4 91 (mc n (.slice A4 rr.length c4)), own 3 1 (.slice B tt.length d) tt.length (intsI tt), blk g1 91 (mc n (.slice A R.length ca))] [MatR S9 (.slice A9 rr.length c9) rr, MatR S' (.slice A4 rr.length c4) rr, MatR (fun g => g < w.heap.size) (.slice A R.length ca) R]) ?_ ?_
    · refine H.loadAll 0 rfl agg91 size91 ?_
      refine call_fn (hc89 _ _ _ hsm.1 hsm.2 (H.ro 0 rfl) (H.rlt _ (.head _))) ?_
      rintro _ w6 ⟨B8, d8, v', S9, rfl, HR, hS9⟩
      have H2 := H.merge HR fun r hr g hg => by
        rw [List.mem_singleton] at hr
        subst hr
        rcases hS9 g hg with h | h
        · exact .inl h
        · exact .inr ⟨_, .head _, h⟩
      clear H HR
      obtain ⟨A9, c9, rfl⟩ := (H2.ro 0 rfl).form
      refine H2.alloc 91 zero91 rfl ?_
      clear H2
      intro g9 w7 H
      refine H.storeAll 0 rfl size91 rfl (fun v hv => mc_one v hv) ?_
      clear H
      intro w8 H
      exact ⟨(B8, d8, g9, A9, c9, S9), ⟨rfl, rfl, rfl, trivial⟩, H⟩
    clear H
    rintro ⟨B8, d8, g9, A9, c9, S9⟩ u w6 H
    replace H : Hp _ _ _ _ _ := H
    refine len_sl Try.underlying32 ?_
    iterate 4 refine cond_yes (decide_eq_true rfl) ?_
    refine fieldAddr_by (fa91_1 _) ?_
    refine cond_yes (decide_eq_true rfl) ?_
    refine H.load 0 rfl agg89 rfl ?_
    refine cond_yes (decide_eq_true rfl) ?_
    refine fieldAddr_by (fa91_1 _) ?_
    refine cond_yes (decide_eq_true rfl) ?_
    refine H.load 2 rfl agg89 rfl ?_
    refine cond_yes (decide_eq_true rfl) ?_
    refine call_fn (c85 rr rr _ _ _ hsm.1 hsm.2 hsm.2 (H.matAt 0 rfl) (H.matAt 1 rfl)) ?_ 
    rintro _ w21 ⟨rfl, hk21⟩ 
    replace H := H.same hk21 
    clear hk21
    iterate 2 refine cond_yes (decide_eq_true rfl) ?_
    refine call_fn (c80 _) ?_ 
    rintro _ w24 ⟨rfl, hk24⟩ 
    replace H := H.same hk24 
    clear hk24
    refine cond_yes (decide_eq_true rfl) ?_
    exact ⟨rfl, H.keeps⟩
end Go.Proofs.Ytjebpngdinbckaa
end

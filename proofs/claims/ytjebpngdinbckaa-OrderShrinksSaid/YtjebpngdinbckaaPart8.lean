import Derived.Test.YtjebpngdinbckaaPart7
/- Lemmas, part 8: what the proof of the row uses. -/
section
/- Orders of inputs: sifting. -/
namespace Go.Proofs.Ytjebpngdinbckaa
open Go.Dk
attribute [local irreducible] IntKind.wrap

theorem bin_eql32z {xo : Operand} {w : World} {kk : Value → World → Prop} (h : kk (.bool true) w) : binK Try.prog .eql 32 xo (.const (.slice none 0 0)) (.slice none 0 0) (.slice none 0 0) w kk :=
  bin_by (fun w => by kernel_rfl) h
theorem bin_eql32s {xo : Operand} {w : World} {kk : Value → World → Prop} {g n d : Nat} (h : kk (.bool false) w) : binK Try.prog .eql 32 xo (.const (.slice none 0 0)) (.slice (some ⟨g, 0, none⟩) n d) (.slice none 0 0) w kk :=
  bin_by (fun w => by kernel_rfl) h
theorem mkFn {P : Program} {fn : Fn} {a c : List Value} {w : World} {k : Value → World → Prop} (h : k (.func fn a.toArray c.toArray) w) : makeFuncK P fn a c w k := by
  unfold makeFuncK
  exact ⟨_, w, by simp [Instr.makeFunc], h⟩
theorem may_move {l : List Nat} {ks : List Int} (h : MayS l ks) {x : Int} (h0 : 0 ≤ x) (h1 : x < ks.length) (p : Nat) : MayS l (moveI ks x p) :=
  ⟨h.1, move_ord h.2.1 h0 h1 p, fun s hs => by rw [move_len h.2.1 h0 h1]; exact h.2.2 s hs⟩
theorem sizes_le {l : List Nat} {ks : List Int} (h : MayS l ks) : sizesS l ks ≤ 1024 := by
  have h1 := sumTo_le (l := l) (o := natsI ks) h.2.1.nats.le l.length
  rw [sumTo_all] at h1
  have := h.1
  omega
theorem agg111' : aggT Try.prog 111 = some false := agg111
theorem size111 : sizeT Try.prog 111 = some 1 := by kernel_rfl
theorem size32' : sizeT Try.prog 32 = some 1 := by kernel_rfl
theorem best_len {cost : List Int → Nat} {ks : List Int} (h : OrdI ks) {x : Int} (h0 : 0 ≤ x) (h1 : x < ks.length) (k : Nat) : OrdI (bestP cost ks x k) ∧ (bestP cost ks x k).length = ks.length := by
  obtain ⟨p, _, he⟩ := bestP_at cost ks x k
  rw [he]
  exact ⟨move_ord h h0 h1 p, move_len h h0 h1 p⟩
theorem ent182 : enters Try.prog 182 = true := by kernel_rfl
theorem c182 (l : List Nat) (ks : List Int) (A B : Option Addr) (c d g10 g3 : Nat) (x : Int) (w : World) (hz : ∀ s ∈ l, s < 2 ^ 256) (hmay : MayS l ks) (hx : 0 ≤ x ∧ x < ks.length)
    (h10 : (blk g10 32 #[.slice B ks.length d]).ok w) (h3 : (blk g3 111 #[.slice A l.length c]).ok w)
    (hA : Sl w (.slice A l.length c) 4 l.length (flat encZ l)) (hB : Sl w (.slice B ks.length d) 1 ks.length (intsI ks)) :
    Fun Try.prog 182 [.int .i64 x, .pointer (some ⟨g10, 0, none⟩), .pointer (some ⟨g3, 0, none⟩)] w fun v w' => ∃ g d', v = .slice (some ⟨g, 0, none⟩) ks.length d' ∧ NewR w w' (own 3 1 (.slice (some ⟨g, 0, none⟩) ks.length d') ks.length (intsI (bestP (sizesS l) ks x (ks.length - 1)))) := by
  refine fun_of_W (N := 41) Try.func182 ent182 rfl rfl rfl (by simp) ?_
  have hord := hmay.2.1
  have h8 := hord.le
  have h4 := hmay.1
  have H := Hp.start w (fun _ => False) [blk g10 32 #[.slice B ks.length d], blk g3 111 #[.slice A l.length c]] (fun s hs => by
    rcases List.mem_cons.1 hs with rfl | hs
    · exact h10
    · rw [List.mem_singleton] at hs; subst hs; exact h3) (fun s hs => by
    rcases List.mem_cons.1 hs with rfl | hs
    · rintro y rfl; exact blk_lt h10
    · rw [List.mem_singleton] at hs; subst hs; rintro y rfl; exact blk_lt h3)
  refine cut_rule (γ := Unit) _ rfl (fun _ => []) (fun _ w' => Hp w (fun _ => False) w' [] [blk g10 32 #[.slice B ks.length d], blk g3 111 #[.slice A l.length c]]) ⟨(), trivial, H⟩ ?_
  clear H
  rintro ⟨⟩ u w0 H
  replace H : Hp _ _ _ _ _ := H
  refine cut_rule (γ := Unit) _ rfl (fun _ => [(5, .slice none 0 0)]) (fun _ w' => Hp w (fun _ => False) w' [] [blk g10 32 #[.slice B ks.length d], blk g3 111 #[.slice A l.length c]]) ⟨(), ⟨rfl, trivial⟩, H⟩ ?_
  clear H
  rintro ⟨⟩ u w1 H
  replace H : Hp _ _ _ _ _ := H
  refine cut_rule (γ := Unit) _ rfl (fun _ => [(6, .int .i64 0)]) (fun _ w' => Hp w (fun _ => False) w' [] [blk g10 32 #[.slice B ks.length d], blk g3 111 #[.slice A l.length c]]) ⟨(), ⟨rfl, trivial⟩, H⟩ ?_
  clear H
  rintro ⟨⟩ u w1 H
  replace H : Hp _ _ _ _ _ := H
  have H2 := H.ownNil 3 1
  clear H
  refine cut_rule (γ := Nat × Nat) _ rfl (fun (g, d') => [(5, .slice (some ⟨g, 0, none⟩) ks.length d')]) (fun (g, d') w' => Hp w (fun _ => False) w' [own 3 1 (.slice (some ⟨g, 0, none⟩) ks.length d') ks.length (intsI (bestP (sizesS l) ks x (ks.length - 1)))] [blk g10 32 #[.slice B ks.length d], blk g3 111 #[.slice A l.length c]]) ?_ ?_
  · refine ld_blk (H2.ro 0 rfl) agg32 rfl ?_
    refine len_sl Try.underlying32 ?_
    refine loop_rule (γ := Nat × List Int × Nat × Option Addr × Nat) _ rfl (fun (i, out, least, C, d') => [(14, .int .i64 (i : Int)), (5, .slice C out.length d'), (6, .int .i64 (least : Int))])
      (fun (i, out, least, C, d') w' => (i ≤ ks.length ∧ ((i = 0 ∧ C = none ∧ d' = 0 ∧ out = [] ∧ least = 0) ∨ ∃ k g, i = k + 1 ∧ C = some ⟨g, 0, none⟩ ∧ out = bestP (sizesS l) ks x k ∧ least = sizesS l out)) ∧
        Hp w (fun _ => False) w' [own 3 1 (.slice C out.length d') out.length (intsI out)] [blk g10 32 #[.slice B ks.length d], blk g3 111 #[.slice A l.length c]])
      (fun (i, _) => ks.length - i) (0, [], 0, none, 0) ⟨rfl, rfl, rfl, trivial⟩ ⟨⟨Nat.zero_le _, .inl ⟨rfl, rfl, rfl, rfl, rfl⟩⟩, H2⟩ ?_
    clear H2
    rintro ⟨i, out, least, C, d'⟩ u w2 ⟨⟨hi, hcase⟩, H⟩
    replace H : Hp _ _ _ _ _ := H
    refine cond_dec (fun h7 => ?_) (fun h7 => ?_)
    · have hmm := may_move hmay hx.1 hx.2 i
      have hml := move_len hord hx.1 hx.2 i
      refine cut_rule (γ := List Int × Nat × Nat × Nat) _ rfl (fun (out, least, g, d') => [(5, .slice (some ⟨g, 0, none⟩) out.length d'), (6, .int .i64 (least : Int))])
        (fun (out, least, g, d') w' => (out = bestP (sizesS l) ks x i ∧ least = sizesS l out) ∧ Hp w (fun _ => False) w' [own 3 1 (.slice (some ⟨g, 0, none⟩) out.length d') out.length (intsI out)] [blk g10 32 #[.slice B ks.length d], blk g3 111 #[.slice A l.length c]]) ?_ ?_
      · refine cut_rule (γ := Unit) _ rfl (fun _ => [(7, .int .i64 (i : Int))]) (fun _ w' => Hp w (fun _ => False) w' [own 3 1 (.slice C out.length d') out.length (intsI out)] [blk g10 32 #[.slice B ks.length d], blk g3 111 #[.slice A l.length c]]) ⟨(), ⟨rfl, trivial⟩, H⟩ ?_
        clear H
        rintro ⟨⟩ u w3 H
        replace H : Hp _ _ _ _ _ := H
        refine cut_rule (γ := Nat × Nat) _ rfl (fun (g, e) => [(8, .slice (some ⟨g, 0, none⟩) ks.length e)]) (fun (g, e) w' => Hp w (fun _ => False) w' [own 3 1 (.slice (some ⟨g, 0, none⟩) ks.length e) ks.length (intsI (moveI ks x i)), own 3 1 (.slice C out.length d') out.length (intsI out)] [blk g10 32 #[.slice B ks.length d], blk g3 111 #[.slice A l.length c]]) ?_ ?_
        · refine ld_blk (H.ro 0 rfl) agg32 rfl ?_
          refine call_fn (c100 ks B d x i _ (by omega) (hB.same H.keeps)) ?_
          rintro _ w4 (⟨h, _⟩ | ⟨_, g, e, rfl, hn⟩)
          · exact absurd ⟨hord, hx, by omega, h7⟩ h
          · exact ⟨(g, e), ⟨rfl, trivial⟩, H.addNew hn⟩
        clear H
        rintro ⟨g, e⟩ u w4 H
        replace H : Hp _ _ _ _ _ := H
        refine cut_rule (γ := Unit) _ rfl (fun _ => [(10, .int .i64 ((sizesS l (moveI ks x i) : Nat) : Int))]) (fun _ w' => Hp w (fun _ => False) w' [own 3 1 (.slice (some ⟨g, 0, none⟩) ks.length e) ks.length (intsI (moveI ks x i)), own 3 1 (.slice C out.length d') out.length (intsI out)] [blk g10 32 #[.slice B ks.length d], blk g3 111 #[.slice A l.length c]]) ?_ ?_
        · refine ld_blk (H.ro 1 rfl) agg111 rfl ?_
          have hc := fun w1 h1 h2 => c97 l (moveI ks x i) A (some ⟨g, 0, none⟩) c e w1 (by omega) hz (by omega) h1 h2
          rw [if_pos hmm, hml] at hc
          refine call_fn (hc _ (hA.same H.keeps) (own_Sl (H.get 0 rfl))) ?_
          rintro _ w5 ⟨rfl, hk⟩
          exact ⟨(), ⟨rfl, trivial⟩, H.same hk⟩
        clear H
        rintro ⟨⟩ u w5 H
        replace H : Hp _ _ _ _ _ := H
        rcases hcase with ⟨rfl, rfl, rfl, rfl, rfl⟩ | ⟨k, g0, rfl, rfl, rfl, rfl⟩
        · have e1 : (bestP (sizesS l) ks x 0).length = ks.length := hml
          refine bin_eql32z ?_
          iterate 5 refine cond_yes rfl ?_
          exact ⟨(moveI ks x 0, sizesS l (moveI ks x 0), g, e), ⟨by rw [hml]; rfl, rfl, trivial⟩, ⟨rfl, rfl⟩, by rw [hml]; exact H.takeN 1⟩
        · have hbl := (best_len (cost := sizesS l) hord hx.1 hx.2 k).2
          have hst : bestP (sizesS l) ks x (k + 1) = if sizesS l (moveI ks x (k + 1)) < sizesS l (bestP (sizesS l) ks x k) then moveI ks x (k + 1) else bestP (sizesS l) ks x k := rfl
          by_cases hlt : sizesS l (moveI ks x (k + 1)) < sizesS l (bestP (sizesS l) ks x k)
          · rw [if_pos hlt] at hst
            refine bin_eql32s ?_
            iterate 4 refine cond_no rfl ?_
            refine cond_yes (decide_eq_true (by omega)) ?_
            exact ⟨(moveI ks x (k + 1), sizesS l (moveI ks x (k + 1)), g, e), ⟨by rw [hml]; rfl, rfl, trivial⟩, ⟨hst.symm, rfl⟩, by rw [hml]; exact H.takeN 1⟩
          · rw [if_neg hlt] at hst
            refine bin_eql32s ?_
            iterate 4 refine cond_no rfl ?_
            refine cond_no (decide_eq_false (by omega)) ?_
            exact ⟨(bestP (sizesS l) ks x k, sizesS l (bestP (sizesS l) ks x k), g0, d'), ⟨rfl, rfl, trivial⟩, ⟨hst.symm, rfl⟩, H.forget⟩
      · clear H
        rintro ⟨out, least, g, d'⟩ u w3 ⟨⟨h1, h2⟩, H⟩
        exact ⟨(i + 1, out, least, some ⟨g, 0, none⟩, d'), by show ks.length - (i + 1) < ks.length - i; omega, ⟨up (by omega), rfl, rfl, trivial⟩, ⟨by show i + 1 ≤ ks.length; omega, .inr ⟨i, g, rfl, rfl, h1, h2⟩⟩, H⟩
    · rcases hcase with ⟨rfl, _⟩ | ⟨k, g0, rfl, rfl, rfl, rfl⟩
      · omega
      · have hbl := (best_len (cost := sizesS l) hord hx.1 hx.2 k).2
        have hk : ks.length - 1 = k := by omega
        rw [hk]
        rw [hbl] at H
        exact ⟨(g0, d'), ⟨by show Value.slice (some ⟨g0, 0, none⟩) (bestP (sizesS l) ks x k).length d' = _; rw [hbl], trivial⟩, H⟩
  clear H2
  rintro ⟨g, d'⟩ u w2 H
  replace H : Hp _ _ _ _ _ := H
  exact ⟨g, d', rfl, H.out⟩
theorem min2_by {a b m : Int} {ty : TypeId} {cst : Array Bool} {w : World} {kk : Value → World → Prop} (hm : (if b < a then b else a) = m) (h : kk (.int .i64 m) w) : builtinK Try.prog .min #[3, 3] ty cst [.int .i64 a, .int .i64 b] w kk := by
  unfold builtinK
  refine ⟨_, w, ?_, h⟩
  show (do pure (.value (← Builtin.min_ #[3, 3] ty #[.int .i64 a, .int .i64 b])) : Sem Next).run Try.prog w = _
  rw [Sem.run_bind, run_min_int2, hm]
  rfl
theorem may_sift {l : List Nat} {ks ks' : List Int} {cost : List Int → Nat} (h : MayS l ks) (hs : SiftOk cost ks ks') : MayS l ks' := ⟨h.1, hs.ord, by rw [hs.len]; exact h.2.2⟩
theorem zero32 : zeroT Try.prog 32 = some (.slice none 0 0) := by kernel_rfl
theorem ent104 : enters Try.prog 104 = true := by kernel_rfl
theorem c104 (l : List Nat) (ks : List Int) (A B : Option Addr) (c d : Nat) (rounds : Int) (w : World) (hl : l.length ≤ 9223372036854775807) (hz : ∀ s ∈ l, s < 2 ^ 256) (hk : ks.length ≤ 9223372036854775807)
    (hA : Sl w (.slice A l.length c) 4 l.length (flat encZ l)) (hB : Sl w (.slice B ks.length d) 1 ks.length (intsI ks)) :
    Fun Try.prog 104 [.slice A l.length c, .slice B ks.length d, .int .i64 rounds] w fun v w' =>
      (¬ MayS l ks ∧ v = .tuple #[.slice none 0 0, .int .i64 1] ∧ Same w w') ∨
      (MayS l ks ∧ ∃ C e, v = .tuple #[.slice C ks.length e, .int .i64 0] ∧ NewR w w' (own 3 1 (.slice C ks.length e) ks.length (intsI (sifts (sizesS l) ks (min rounds.toNat 4))))) := by
  refine fun_of_W (N := 41) Try.func104 ent104 rfl rfl rfl (by simp) ?_
  have H := Hp.start0 w
  refine cut_rule (γ := Nat) _ rfl (fun g => [(3, .pointer (some ⟨g, 0, none⟩))]) (fun g w' => Hp w (fun _ => False) w' [blk g 111 #[.slice A l.length c]] []) ?_ ?_
  · refine H.box 111 (.slice A l.length c) (cs := #[.slice A l.length c]) rfl ?_
    clear H
    intro g1 w1 H
    exact ⟨g1, ⟨rfl, trivial⟩, H⟩
  clear H
  rintro g3 u w1 H
  replace H : Hp _ _ _ _ _ := H
  have hc := fun w1 h1 h2 => c97 l ks A B c d w1 hl hz hk h1 h2
  refine cut_rule (γ := Unit) _ rfl (fun _ => []) (fun _ w' => MayS l ks ∧ Hp w (fun _ => False) w' [blk g3 111 #[.slice A l.length c]] []) ?_ ?_
  · by_cases hmay : MayS l ks
    · rw [if_pos hmay] at hc
      refine H.load 0 rfl agg111 rfl ?_
      refine call_fn (hc _ (hA.same H.keeps) (hB.same H.keeps)) ?_
      rintro _ w4 ⟨rfl, hk⟩
      replace H := H.same hk
      clear hk
      refine cond_no rfl ?_
      exact ⟨(), trivial, hmay, H⟩
    · rw [if_neg hmay] at hc
      refine H.load 0 rfl agg111 rfl ?_
      refine call_fn (hc _ (hA.same H.keeps) (hB.same H.keeps)) ?_
      rintro _ w4 ⟨rfl, hk⟩
      replace H := H.same hk
      clear hk
      refine cond_yes rfl ?_
      exact .inl ⟨hmay, rfl, H.keeps⟩
  clear H hc
  rintro ⟨⟩ u w2 ⟨hmay, H⟩
  replace H : Hp _ _ _ _ _ := H
  have hord := hmay.2.1
  have h8 := hord.le
  refine cut_rule (γ := Nat × Option Addr × Nat) _ rfl (fun (g10, _) => [(10, .pointer (some ⟨g10, 0, none⟩))]) (fun (g10, C, e) w' => Hp w (fun _ => False) w' [own 3 1 (.slice C ks.length e) ks.length (intsI ks), blk g10 32 #[.slice C ks.length e], blk g3 111 #[.slice A l.length c]] []) ?_ ?_
  · refine Hp.buildNil H T32 ?_
    clear H
    intro g1 w6 H
    refine Hp.appendCopy H 0 T32 rfl (hB.same H.keeps) (intsI_one ks) (by omega) (by omega) ?_
    clear H
    intro A2 d2 w7 H
    refine H.alloc 32 (cs := #[.slice none 0 0]) zero32 rfl ?_
    clear H
    intro g10 w8 H
    refine H.store 0 rfl size32' (Nat.le_of_ble_eq_true rfl) rfl ?_
    clear H
    intro w9 H
    exact ⟨(g10, A2, d2), ⟨rfl, trivial⟩, H.front 1 rfl⟩
  clear H
  rintro ⟨g10, C, e⟩ u w3 H
  replace H : Hp _ _ _ _ _ := H
  refine cut_rule (γ := Unit) _ rfl (fun _ => [(11, .func (.func 182) #[] #[.pointer (some ⟨g10, 0, none⟩), .pointer (some ⟨g3, 0, none⟩)])]) (fun _ w' => Hp w (fun _ => False) w' [own 3 1 (.slice C ks.length e) ks.length (intsI ks), blk g10 32 #[.slice C ks.length e], blk g3 111 #[.slice A l.length c]] []) ?_ ?_
  · refine mkFn ?_
    exact ⟨(), ⟨rfl, trivial⟩, H⟩
  clear H
  rintro ⟨⟩ u w4 H
  replace H : Hp _ _ _ _ _ := H
  refine cut_rule (γ := Option Addr × Nat) _ rfl (fun _ => []) (fun (C, e) w' => Hp w (fun _ => False) w' [own 3 1 (.slice C ks.length e) ks.length (intsI (sifts (sizesS l) ks (min rounds.toNat 4))), blk g10 32 #[.slice C ks.length e], blk g3 111 #[.slice A l.length c]] []) ?_ ?_
  · refine min2_by rfl ?_
    refine loop_rule (γ := Nat × Option Addr × Nat) _ rfl (fun (r, _) => [(28, .int .i64 (r : Int))]) (fun (r, C, e) w' => r ≤ min rounds.toNat 4 ∧ Hp w (fun _ => False) w' [own 3 1 (.slice C ks.length e) ks.length (intsI (sifts (sizesS l) ks r)), blk g10 32 #[.slice C ks.length e], blk g3 111 #[.slice A l.length c]] []) (fun (r, _) => 4 - r) (0, C, e) ⟨rfl, trivial⟩ ⟨Nat.zero_le _, H⟩ ?_
    clear H
    rintro ⟨r, C, e⟩ u w5 ⟨hr, H⟩
    replace H : Hp _ _ _ _ _ := H
    have hsr := sifts_ok (cost := sizesS l) hord r
    refine cond_dec (fun h7 => ?_) (fun h7 => ?_)
    · have hr2 : r < min rounds.toNat 4 := by split at h7 <;> omega
      have hst : sifts (sizesS l) ks (r + 1) = siftTo (sizesS l) (sifts (sizesS l) ks r) ks.length := by
        show siftTo (sizesS l) (sifts (sizesS l) ks r) (sifts (sizesS l) ks r).length = _
        rw [hsr.len]
      refine cut_rule (γ := Option Addr × Nat) _ rfl (fun _ => []) (fun (C, e) w' => Hp w (fun _ => False) w' [own 3 1 (.slice C ks.length e) ks.length (intsI (sifts (sizesS l) ks (r + 1))), blk g10 32 #[.slice C ks.length e], blk g3 111 #[.slice A l.length c]] []) ?_ ?_
      · rw [hst]
        refine H.load 1 rfl agg32 rfl ?_
        refine len_sl Try.underlying32 ?_
        refine loop_rule (γ := Nat × Option Addr × Nat) _ rfl (fun (k, _) => [(32, .int .i64 (k : Int))]) (fun (k, C, e) w' => k ≤ ks.length ∧ Hp w (fun _ => False) w' [own 3 1 (.slice C ks.length e) ks.length (intsI (siftTo (sizesS l) (sifts (sizesS l) ks r) k)), blk g10 32 #[.slice C ks.length e], blk g3 111 #[.slice A l.length c]] []) (fun (k, _) => ks.length - k) (0, C, e) ⟨rfl, trivial⟩ ⟨Nat.zero_le _, H⟩ ?_
        clear H
        rintro ⟨k, C, e⟩ u w6 ⟨hk2, H⟩
        replace H : Hp _ _ _ _ _ := H
        have hok := siftTo_ok (cost := sizesS l) hsr.ord k (by rw [hsr.len]; exact hk2)
        have hlen : (siftTo (sizesS l) (sifts (sizesS l) ks r) k).length = ks.length := hok.len.trans hsr.len
        have hmk : MayS l (siftTo (sizesS l) (sifts (sizesS l) ks r) k) := may_sift (may_sift hmay hsr) hok
        refine cond_dec (fun h9 => ?_) (fun h9 => ?_)
        · have hst2 : siftTo (sizesS l) (sifts (sizesS l) ks r) (k + 1) = bestP (sizesS l) (siftTo (sizesS l) (sifts (sizesS l) ks r) k) (k : Int) (ks.length - 1) := by
            show bestP (sizesS l) (siftTo (sizesS l) (sifts (sizesS l) ks r) k) (k : Int) ((sifts (sizesS l) ks r).length - 1) = _
            rw [hsr.len]
          refine cut_rule (γ := Option Addr × Nat) _ rfl (fun _ => []) (fun (C, e) w' => Hp w (fun _ => False) w' [own 3 1 (.slice C ks.length e) ks.length (intsI (siftTo (sizesS l) (sifts (sizesS l) ks r) (k + 1))), blk g10 32 #[.slice C ks.length e], blk g3 111 #[.slice A l.length c]] []) ?_ ?_
          · rw [hst2]
            generalize siftTo (sizesS l) (sifts (sizesS l) ks r) k = now at hmk hlen H ⊢
            have hcl := fun w1 a b c0 d0 => c182 l now A C c e g10 g3 (k : Int) w1 hz hmk (by omega) a b c0 d0
            rw [hlen] at hcl
            refine call_clo (hcl _ (H.get 1 rfl) (H.get 2 rfl) (hA.same H.keeps) (own_Sl (H.get 0 rfl))) ?_
            rintro _ w7 ⟨g, d', rfl, hn⟩
            replace H := H.addNew hn
            clear hn
            refine H.store 2 rfl size32' (Nat.le_of_ble_eq_true rfl) rfl ?_
            clear H
            intro w8 H
            exact ⟨(some ⟨g, 0, none⟩, d'), trivial, ((H.front 1 rfl).forget)⟩
          · clear H
            rintro ⟨C, e⟩ u w7 H
            exact ⟨(k + 1, C, e), by show ks.length - (k + 1) < ks.length - k; omega, ⟨up (by omega), trivial⟩, by show k + 1 ≤ ks.length; omega, H⟩
        · obtain rfl : k = ks.length := by omega
          exact ⟨(C, e), trivial, H⟩
      · clear H
        rintro ⟨C, e⟩ u w6 H
        exact ⟨(r + 1, C, e), by show 4 - (r + 1) < 4 - r; omega, ⟨up (by omega), trivial⟩, by show r + 1 ≤ min rounds.toNat 4; omega, H⟩
    · have : r = min rounds.toNat 4 := by split at h7 <;> omega
      subst this
      exact ⟨(C, e), trivial, H⟩
  clear H
  rintro ⟨C, e⟩ u w5 H
  replace H : Hp _ _ _ _ _ := H
  refine H.load 1 rfl agg32 rfl ?_
  exact .inr ⟨hmay, C, e, rfl, H.out⟩
end Go.Proofs.Ytjebpngdinbckaa
end

section
/- Orders of inputs: the reference's Sift. -/
namespace Go.Proofs.Ytjebpngdinbckaa
open Go.Dk
attribute [local irreducible] IntKind.wrap

theorem ent105 : enters Try.prog 105 = true := by kernel_rfl
theorem c105 (l : List Nat) (ks : List Int) (A B : Option Addr) (c d : Nat) (R : Nat) (w : World) (hl : l.length ≤ 1000000) (hR : R ≤ 4) (hmay : MayS l ks)
    (hA : Sl w (.slice A l.length c) 4 l.length (flat encZ l)) (hB : Sl w (.slice B ks.length d) 1 ks.length (intsI ks)) :
    Fun Try.prog 105 [.slice A l.length c, .slice B ks.length d, .int .i64 (R : Int)] w fun v w' => ∃ C e, v = .slice C ks.length e ∧ NewR w w' (own 3 1 (.slice C ks.length e) ks.length (intsI (sifts (sizesS l) ks R))) := by
  refine fun_of_W (N := 50) Try.func105 ent105 rfl rfl rfl (by simp) ?_
  have H := Hp.start0 w
  have hord := hmay.2.1
  have h8 := hord.le
  refine cut_rule (γ := Unit) _ rfl (fun _ => []) (fun _ w' => Hp w (fun _ => False) w' [] []) ⟨(), trivial, H⟩ ?_
  clear H
  rintro ⟨⟩ u w0 H
  replace H : Hp _ _ _ _ _ := H
  refine cut_rule (γ := Option Addr × Nat) _ rfl (fun (C, e) => [(7, .slice C ks.length e)]) (fun (C, e) w' => Hp w (fun _ => False) w' [own 3 1 (.slice C ks.length e) ks.length (intsI ks)] []) ?_ ?_
  · refine Hp.buildNil H T32 ?_
    clear H
    intro g1 w6 H
    refine Hp.appendCopy H 0 T32 rfl (hB.same H.keeps) (intsI_one ks) (by omega) (by omega) ?_
    clear H
    intro A2 d2 w7 H
    exact ⟨(A2, d2), ⟨rfl, trivial⟩, H⟩
  clear H
  rintro ⟨C, e⟩ u w3 H
  replace H : Hp _ _ _ _ _ := H
  refine cut_rule (γ := Option Addr × Nat) _ rfl (fun (C, e) => [(7, .slice C ks.length e)]) (fun (C, e) w' => Hp w (fun _ => False) w' [own 3 1 (.slice C ks.length e) ks.length (intsI (sifts (sizesS l) ks R))] []) ?_ ?_
  · refine loop_rule (γ := Nat × Option Addr × Nat) _ rfl (fun (r, C, e) => [(8, .int .i64 (r : Int)), (7, .slice C ks.length e)]) (fun (r, C, e) w' => r ≤ R ∧ Hp w (fun _ => False) w' [own 3 1 (.slice C ks.length e) ks.length (intsI (sifts (sizesS l) ks r))] []) (fun (r, _) => R - r) (0, C, e) ⟨rfl, rfl, trivial⟩ ⟨Nat.zero_le _, H⟩ ?_
    clear H
    rintro ⟨r, C, e⟩ u w5 ⟨hr, H⟩
    replace H : Hp _ _ _ _ _ := H
    have hsr := sifts_ok (cost := sizesS l) hord r
    refine cond_dec (fun h7 => ?_) (fun h7 => ?_)
    · have hst : sifts (sizesS l) ks (r + 1) = siftTo (sizesS l) (sifts (sizesS l) ks r) ks.length := by
        show siftTo (sizesS l) (sifts (sizesS l) ks r) (sifts (sizesS l) ks r).length = _
        rw [hsr.len]
      refine cut_rule (γ := Option Addr × Nat) _ rfl (fun (C, e) => [(7, .slice C ks.length e)]) (fun (C, e) w' => Hp w (fun _ => False) w' [own 3 1 (.slice C ks.length e) ks.length (intsI (sifts (sizesS l) ks (r + 1)))] []) ?_ ?_
      · rw [hst]
        refine loop_rule (γ := Nat × Option Addr × Nat) _ rfl (fun (k, C, e) => [(9, .int .i64 (k : Int)), (7, .slice C ks.length e)]) (fun (k, C, e) w' => k ≤ ks.length ∧ Hp w (fun _ => False) w' [own 3 1 (.slice C ks.length e) ks.length (intsI (siftTo (sizesS l) (sifts (sizesS l) ks r) k))] []) (fun (k, _) => ks.length - k) (0, C, e) ⟨rfl, rfl, trivial⟩ ⟨Nat.zero_le _, H⟩ ?_
        clear H
        rintro ⟨k, C, e⟩ u w6 ⟨hk2, H⟩
        replace H : Hp _ _ _ _ _ := H
        have hok := siftTo_ok (cost := sizesS l) hsr.ord k (by rw [hsr.len]; exact hk2)
        have hlen : (siftTo (sizesS l) (sifts (sizesS l) ks r) k).length = ks.length := hok.len.trans hsr.len
        have hmk : MayS l (siftTo (sizesS l) (sifts (sizesS l) ks r) k) := may_sift (may_sift hmay hsr) hok
        refine len_sl Try.underlying32 ?_
        refine cond_dec (fun h9 => ?_) (fun h9 => ?_)
        · have hst2 : siftTo (sizesS l) (sifts (sizesS l) ks r) (k + 1) = bestP (sizesS l) (siftTo (sizesS l) (sifts (sizesS l) ks r) k) (k : Int) (ks.length - 1) := by
            show bestP (sizesS l) (siftTo (sizesS l) (sifts (sizesS l) ks r) k) (k : Int) ((sifts (sizesS l) ks r).length - 1) = _
            rw [hsr.len]
          refine cut_rule (γ := Option Addr × Nat) _ rfl (fun (C, e) => [(7, .slice C ks.length e)]) (fun (C, e) w' => Hp w (fun _ => False) w' [own 3 1 (.slice C ks.length e) ks.length (intsI (siftTo (sizesS l) (sifts (sizesS l) ks r) (k + 1)))] []) ?_ ?_
          · rw [hst2]
            obtain ⟨now, hnow⟩ : ∃ now, now = siftTo (sizesS l) (sifts (sizesS l) ks r) k := ⟨_, rfl⟩
            rw [← hnow] at hmk hlen H ⊢
            have hx : 0 ≤ (k : Int) ∧ (k : Int) < now.length := by omega
            have hmv := fun p hp w1 hs => c103 now C e (k : Int) p w1 hmk.2.1 hx hp hs
            rw [hlen] at hmv
            have hbl := fun j => best_len (cost := sizesS l) hmk.2.1 hx.1 hx.2 j
            have hml := fun p => move_len hmk.2.1 hx.1 hx.2 p
            refine cut_rule (γ := Nat × Nat) _ rfl (fun (g, d') => [(10, .slice (some ⟨g, 0, none⟩) ks.length d')]) (fun (g, d') w' => Hp w (fun _ => False) w' [own 3 1 (.slice (some ⟨g, 0, none⟩) ks.length d') ks.length (intsI (bestP (sizesS l) now (k : Int) 0)), own 3 1 (.slice C ks.length e) ks.length (intsI now)] []) ?_ ?_
            · refine call_fn (hmv 0 (by omega) _ (own_Sl (H.get 0 rfl))) ?_
              rintro _ w7 ⟨g, d', rfl, hn⟩
              exact ⟨(g, d'), ⟨rfl, trivial⟩, H.addNew hn⟩
            clear H
            rintro ⟨g, d'⟩ u w7 H
            replace H : Hp _ _ _ _ _ := H
            refine cut_rule (γ := Nat × Nat) _ rfl (fun (g, d') => [(10, .slice (some ⟨g, 0, none⟩) ks.length d')]) (fun (g, d') w' => Hp w (fun _ => False) w' [own 3 1 (.slice (some ⟨g, 0, none⟩) ks.length d') ks.length (intsI (bestP (sizesS l) now (k : Int) (ks.length - 1)))] []) ?_ ?_
            · refine loop_rule (γ := Nat × Nat × Nat) _ rfl (fun (j, g, d') => [(11, .int .i64 ((j + 1 : Nat) : Int)), (10, .slice (some ⟨g, 0, none⟩) ks.length d')]) (fun (j, g, d') w' => j ≤ ks.length - 1 ∧ Hp w (fun _ => False) w' [own 3 1 (.slice (some ⟨g, 0, none⟩) ks.length d') ks.length (intsI (bestP (sizesS l) now (k : Int) j)), own 3 1 (.slice C ks.length e) ks.length (intsI now)] []) (fun (j, _) => ks.length - j) (0, g, d') ⟨rfl, rfl, trivial⟩ ⟨Nat.zero_le _, H⟩ ?_
              clear H
              rintro ⟨j, g, d'⟩ u w8 ⟨hj, H⟩
              replace H : Hp _ _ _ _ _ := H
              refine len_sl Try.underlying32 ?_
              refine cond_dec (fun h11 => ?_) (fun h11 => ?_)
              · have hb2 := hbl j
                have hstj : bestP (sizesS l) now (k : Int) (j + 1) = if sizesS l (moveI now (k : Int) (j + 1)) < sizesS l (bestP (sizesS l) now (k : Int) j) then moveI now (k : Int) (j + 1) else bestP (sizesS l) now (k : Int) j := rfl
                refine cut_rule (γ := Nat × Nat) _ rfl (fun (g, d') => [(10, .slice (some ⟨g, 0, none⟩) ks.length d')]) (fun (g, d') w' => Hp w (fun _ => False) w' [own 3 1 (.slice (some ⟨g, 0, none⟩) ks.length d') ks.length (intsI (bestP (sizesS l) now (k : Int) (j + 1))), own 3 1 (.slice C ks.length e) ks.length (intsI now)] []) ?_ ?_
                · refine cut_rule (γ := Nat × Nat) _ rfl (fun (g2, e2) => [(12, .slice (some ⟨g2, 0, none⟩) ks.length e2)]) (fun (g2, e2) w' => Hp w (fun _ => False) w' [own 3 1 (.slice (some ⟨g2, 0, none⟩) ks.length e2) ks.length (intsI (moveI now (k : Int) (j + 1))), own 3 1 (.slice (some ⟨g, 0, none⟩) ks.length d') ks.length (intsI (bestP (sizesS l) now (k : Int) j)), own 3 1 (.slice C ks.length e) ks.length (intsI now)] []) ?_ ?_
                  · refine call_fn (hmv (j + 1) (by omega) _ (own_Sl (H.get 1 rfl))) ?_
                    rintro _ w9 ⟨g2, e2, rfl, hn⟩
                    exact ⟨(g2, e2), ⟨rfl, trivial⟩, H.addNew hn⟩
                  clear H
                  rintro ⟨g2, e2⟩ u w9 H
                  replace H : Hp _ _ _ _ _ := H
                  have hc1 := fun w1 h1 h2 => c99 l (moveI now (k : Int) (j + 1)) A (some ⟨g2, 0, none⟩) c e2 w1 hl (move_ord hmk.2.1 hx.1 hx.2 _) h1 h2
                  rw [hml, hlen] at hc1
                  have hc2 := fun w1 h1 h2 => c99 l (bestP (sizesS l) now (k : Int) j) A (some ⟨g, 0, none⟩) c d' w1 hl hb2.1 h1 h2
                  rw [hb2.2, hlen] at hc2
                  refine call_fn (hc1 _ (hA.same H.keeps) (own_Sl (H.get 0 rfl))) ?_
                  rintro _ w10 ⟨rfl, hk10⟩
                  replace H := H.same hk10
                  refine call_fn (hc2 _ (hA.same H.keeps) (own_Sl (H.get 1 rfl))) ?_
                  rintro _ w11 ⟨rfl, hk11⟩
                  replace H := H.same hk11
                  rw [hstj]
                  refine cond_dec (fun hlt => ?_) (fun hlt => ?_)
                  · rw [if_pos (by omega)]
                    exact ⟨(g2, e2), ⟨rfl, trivial⟩, ((H.front 1 rfl).forget)⟩
                  · rw [if_neg (by omega)]
                    exact ⟨(g, d'), ⟨rfl, trivial⟩, H.forget⟩
                · clear H
                  rintro ⟨g, d'⟩ u w9 H
                  exact ⟨(j + 1, g, d'), by show ks.length - (j + 1) < ks.length - j; omega, ⟨up (by omega), rfl, trivial⟩, by show j + 1 ≤ ks.length - 1; omega, H⟩
              · have : j = ks.length - 1 := by omega
                subst this
                exact ⟨(g, d'), ⟨rfl, trivial⟩, H.takeN 1⟩
            clear H
            rintro ⟨g, d'⟩ u w8 H
            replace H : Hp _ _ _ _ _ := H
            exact ⟨(some ⟨g, 0, none⟩, d'), ⟨rfl, trivial⟩, H⟩
          · clear H
            rintro ⟨C, e⟩ u w7 H
            exact ⟨(k + 1, C, e), by show ks.length - (k + 1) < ks.length - k; omega, ⟨up (by omega), rfl, trivial⟩, by show k + 1 ≤ ks.length; omega, H⟩
        · obtain rfl : k = ks.length := by omega
          exact ⟨(C, e), ⟨rfl, trivial⟩, H⟩
      · clear H
        rintro ⟨C, e⟩ u w6 H
        exact ⟨(r + 1, C, e), by show R - (r + 1) < R - r; omega, ⟨up (by omega), rfl, trivial⟩, by show r + 1 ≤ R; omega, H⟩
    · obtain rfl : r = R := by omega
      exact ⟨(C, e), ⟨rfl, trivial⟩, H⟩
  clear H
  rintro ⟨C, e⟩ u w5 H
  replace H : Hp _ _ _ _ _ := H
  exact ⟨C, e, rfl, H.out⟩
end Go.Proofs.Ytjebpngdinbckaa
end

section
/- Orders of inputs: knows. -/
namespace Go.Proofs.Ytjebpngdinbckaa
open Go.Dk
attribute [local irreducible] IntKind.wrap

theorem blkS_Sl {w : World} {g : Nat} {t : TypeId} {cs : Array Value} {n sz : Nat} (h : (blk g t cs).ok w) (hn : cs.size = n * sz) (hm : n ≤ maxLen) : Sl w (.slice (some ⟨g, 0, none⟩) n n) sz n cs.toList := by
  have h2 : (own t sz (.slice (some ⟨g, 0, none⟩) n n) n cs.toList).ok w := ⟨by simpa using hn, .inr ⟨g, n, cs, rfl, Nat.zero_le _, h, Nat.le_refl _, hm, hn, by rw [← hn, ← Array.length_toList]; exact List.take_length⟩⟩
  exact own_Sl h2
theorem T111 : SlT Try.prog 111 24 (sv 0) 4 32 := ⟨Try.underlying111, by kernel_rfl, rfl, by decide⟩
theorem ent95 : enters Try.prog 95 = true := by kernel_rfl
theorem mayS10 : MayS [10] [0, 1] := ⟨by decide, by decide, fun s hs => by rw [List.mem_singleton] at hs; subst hs; decide +kernel⟩
theorem flatZ1 (s : Nat) : flat encZ [s] = (sc s).toList := by simp [flat, encZ]
theorem c95 (w : World) : Fun Try.prog 95 [] w fun v w' => v = .bool true ∧ Same w w' := by
  refine fun_of_W (N := 55) Try.func95 ent95 rfl rfl rfl (by simp) ?_
  have H := Hp.start0 w
  refine cut_rule (γ := Unit) _ rfl (fun _ => [(0, .bool false)]) (fun _ w' => Hp w (fun _ => False) w' [] []) ⟨(), ⟨rfl, trivial⟩, H⟩ ?_
  clear H
  rintro ⟨⟩ u w0 H
  replace H : Hp _ _ _ _ _ := H
  have ho3 : OrdI [0, 1, 2] := by decide
  refine cut_rule (γ := Nat × Nat) _ rfl (fun (g, d) => [(1, .slice (some ⟨g, 0, none⟩) 3 d), (2, .int .i64 0)]) (fun (g, d) w' => Hp w (fun _ => False) w' [own 3 1 (.slice (some ⟨g, 0, none⟩) 3 d) 3 (intsI [1, 2, 0])] []) ?_ ?_
  · refine H.buildSl T32 (n := 3) (cs := #[.int .i64 0, .int .i64 1, .int .i64 2]) (by omega) (by omega) (by kernel_rfl) ?_
    clear H
    intro g5 w1 H
    refine call_fn (c100 [0, 1, 2] (some ⟨g5, 0, none⟩) 3 0 2 _ (by decide) (blkS_Sl (n := 3) (H.get 0 rfl) rfl (by decide))) ?_
    rintro _ w2 (⟨h, _⟩ | ⟨_, g, d, rfl, hn⟩)
    · exact absurd ⟨ho3, by decide, by decide, by decide⟩ h
    · have e : moveI [0, 1, 2] 0 ((2 : Int).toNat) = [1, 2, 0] := by decide
      rw [e] at hn
      exact ⟨(g, d), ⟨rfl, rfl, trivial⟩, (H.addNew hn).takeN 1⟩
  clear H
  rintro ⟨g1, d1⟩ u w1 H
  replace H : Hp _ _ _ _ _ := H
  have hz : ∀ s ∈ [10], s < 2 ^ 256 := fun s hs => by rw [List.mem_singleton] at hs; subst hs; decide
  refine cut_rule (γ := Unit) _ rfl (fun _ => [(3, .int .i64 1), (4, .int .i64 0)]) (fun _ w' => Hp w (fun _ => False) w' [own 3 1 (.slice (some ⟨g1, 0, none⟩) 3 d1) 3 (intsI [1, 2, 0])] []) ?_ ?_
  · refine build24_10 ?_
    refine H.buildSl T111 (n := 1) (cs := sc 10) (by omega) (by omega) (by kernel_rfl) ?_
    clear H
    intro g5 w2 H
    refine H.buildSl T32 (n := 2) (cs := #[.int .i64 0, .int .i64 1]) (by omega) (by omega) (by kernel_rfl) ?_
    clear H
    intro g6 w3 H
    have hc := fun w1 h1 h2 => c97 [10] [0, 1] (some ⟨g5, 0, none⟩) (some ⟨g6, 0, none⟩) 1 2 w1 (by decide) hz (by decide) h1 h2
    rw [if_pos mayS10, show sizesS [10] [0, 1] = 1 by decide +kernel, flatZ1] at hc
    refine call_fn (hc _ (blkS_Sl (n := 1) (H.get 1 rfl) rfl (by decide)) (blkS_Sl (n := 2) (H.get 0 rfl) rfl (by decide))) ?_
    rintro _ w4 ⟨rfl, hk⟩
    exact ⟨(), ⟨rfl, rfl, trivial⟩, ((H.same hk).front 2 rfl).takeN 1⟩
  clear H
  rintro ⟨⟩ u w2 H
  replace H : Hp _ _ _ _ _ := H
  refine cut_rule (γ := Option Addr × Nat) _ rfl (fun (C, d) => [(5, .slice C 2 d), (6, .int .i64 0)]) (fun _ w' => Hp w (fun _ => False) w' [own 3 1 (.slice (some ⟨g1, 0, none⟩) 3 d1) 3 (intsI [1, 2, 0])] []) ?_ ?_
  · refine build24_10 ?_
    refine H.buildSl T111 (n := 1) (cs := sc 10) (by omega) (by omega) (by kernel_rfl) ?_
    clear H
    intro g5 w2 H
    refine H.buildSl T32 (n := 2) (cs := #[.int .i64 0, .int .i64 1]) (by omega) (by omega) (by kernel_rfl) ?_
    clear H
    intro g6 w3 H
    have hc := fun w1 h1 h2 => c104 [10] [0, 1] (some ⟨g5, 0, none⟩) (some ⟨g6, 0, none⟩) 1 2 1 w1 (by decide) hz (by decide) h1 h2
    rw [flatZ1] at hc
    refine call_fn (hc _ (blkS_Sl (n := 1) (H.get 1 rfl) rfl (by decide)) (blkS_Sl (n := 2) (H.get 0 rfl) rfl (by decide))) ?_
    rintro _ w4 (⟨h, _⟩ | ⟨_, C, e, rfl, hn⟩)
    · exact absurd mayS10 h
    · exact ⟨(C, e), ⟨rfl, rfl, trivial⟩, ((H.addNew hn).front 3 rfl).takeN 1⟩
  clear H
  rintro ⟨C, d⟩ u w3 H
  replace H : Hp _ _ _ _ _ := H
  refine H.buildSl T32 (n := 3) (cs := #[.int .i64 1, .int .i64 2, .int .i64 0]) (by omega) (by omega) (by kernel_rfl) ?_
  clear H
  intro g6 w4 H
  have hc := c102 [1, 2, 0] [1, 2, 0] (some ⟨g1, 0, none⟩) (some ⟨g6, 0, none⟩) d1 3 w4 (by decide) (by decide) (own_Sl (H.get 1 rfl)) (blkS_Sl (n := 3) (H.get 0 rfl) rfl (by decide))
  rw [decide_eq_true rfl] at hc
  refine call_fn hc ?_
  rintro _ w5 ⟨rfl, hk⟩
  replace H := H.same hk
  clear hk hc
  iterate 11 refine cond_yes rfl ?_
  refine len_sl Try.underlying32 ?_
  iterate 6 refine cond_yes rfl ?_
  refine call_fn (c96 2 _) ?_
  rintro _ w6 (⟨h, _⟩ | ⟨k, hk, _, g, rfl, hn⟩)
  · omega
  obtain rfl : k = 2 := by omega
  replace H := H.addNew hn
  clear hn
  have hc := fun g7 w7 h1 h2 => c102 [0, 1] [0, 1] (some ⟨g, 0, none⟩) (some ⟨g7, 0, none⟩) 2 2 w7 (by decide) (by decide) h1 h2
  rw [decide_eq_true rfl] at hc
  refine cond_yes rfl ?_
  refine H.buildSl T32 (n := 2) (cs := #[.int .i64 0, .int .i64 1]) (by omega) (by omega) (by kernel_rfl) ?_
  clear H
  intro g7 w7 H
  refine cond_yes rfl ?_
  refine call_fn (hc g7 _ (own_Sl (H.get 1 rfl)) (blkS_Sl (n := 2) (H.get 0 rfl) rfl (by decide))) ?_
  rintro _ w10 ⟨rfl, hk⟩
  replace H := H.same hk
  refine cond_yes rfl ?_
  exact ⟨rfl, H.keeps⟩
end Go.Proofs.Ytjebpngdinbckaa
end

section
/- Laws 17 to 20. -/
namespace Go.Proofs.Ytjebpngdinbckaa
open Go.Dk
attribute [local irreducible] IntKind.wrap

theorem ent17 : enters Try.prog 17 = true := by kernel_rfl
theorem law17_m (l : List Nat) (ks : List Int) (A B : Option Addr) (c d : Nat) (n : Int) (w : World) (hl : l.length ≤ 9223372036854775807) (hz : ∀ s ∈ l, s < 2 ^ 256) (hk : ks.length ≤ 9223372036854775807)
    (hA : Sl w (.slice A l.length c) 4 l.length (flat encZ l)) (hB : Sl w (.slice B ks.length d) 1 ks.length (intsI ks)) :
    Fun Try.prog 17 [.slice A l.length c, .slice B ks.length d, .int .i64 n] w fun v w' => v = .bool true ∧ Same w w' := by
  refine fun_of_W (N := 85) Try.func17 ent17 rfl rfl rfl (by simp) ?_
  have H := Hp.start0 w
  refine cut_rule (γ := Unit) _ rfl (fun _ => []) (fun _ w' => Hp w (fun _ => False) w' [] []) ⟨(), trivial, H⟩ ?_
  clear H
  rintro ⟨⟩ u w0 H
  replace H : Hp _ _ _ _ _ := H
  refine cut_rule (γ := Unit) _ rfl (fun _ => []) (fun _ w' => (l.length ≤ 20 ∧ ks.length ≤ 20) ∧ Hp w (fun _ => False) w' [] []) ?_ ?_
  · by_cases hg : 20 < l.length ∨ 20 < ks.length
    · have hc := fun w1 => c94 A B l.length ks.length c d w1
      rw [decide_eq_true hg] at hc
      refine call_fn (hc _) ?_
      rintro _ w1 ⟨rfl, hk⟩
      replace H := H.same hk
      clear hk
      refine cond_yes rfl ?_
      refine call_fn (c95 _) ?_
      rintro _ w3 ⟨rfl, hk⟩
      replace H := H.same hk
      clear hk
      exact ⟨rfl, H.keeps⟩
    · have hc := fun w1 => c94 A B l.length ks.length c d w1
      rw [decide_eq_false hg] at hc
      refine call_fn (hc _) ?_
      rintro _ w1 ⟨rfl, hk⟩
      replace H := H.same hk
      clear hk
      refine cond_no rfl ?_
      exact ⟨(), trivial, by omega, H⟩
  clear H
  rintro ⟨⟩ u w1 ⟨⟨hl20, hk20⟩, H⟩
  replace H : Hp _ _ _ _ _ := H
  refine cut_rule (γ := Nat × Option Addr) _ rfl (fun (k, C) => [(7, .slice C k k)]) (fun (k, C) w' => (((n < 0 ∨ 8 < n) ∧ k = 0) ∨ (n = k ∧ k ≤ 8)) ∧ Hp w (fun _ => False) w' [own 3 1 (.slice C k k) k (intsI (iotaI k))] []) ?_ ?_
  · refine call_fn (c96 n _) ?_
    rintro _ w2 (⟨h, rfl, hk⟩ | ⟨k, rfl, hk8, g, rfl, hn⟩)
    · exact ⟨(0, none), ⟨rfl, trivial⟩, .inl ⟨h, rfl⟩, (H.same hk).ownNil 3 1⟩
    · exact ⟨(k, some ⟨g, 0, none⟩), ⟨rfl, trivial⟩, .inr ⟨rfl, hk8⟩, H.addNew hn⟩
  clear H
  rintro ⟨k, C⟩ u w2 ⟨hkn, H⟩
  replace H : Hp _ _ _ _ _ := H
  have hk8 : k ≤ 8 := by omega
  refine cut_rule (γ := Unit) _ rfl (fun _ => []) (fun _ w' => Hp w (fun _ => False) w' [own 3 1 (.slice C k k) k (intsI (iotaI k))] []) ?_ ?_
  · refine loop_rule (γ := Nat) _ rfl (fun i => [(8, .int .i64 (i : Int))]) (fun i w' => i ≤ k ∧ Hp w (fun _ => False) w' [own 3 1 (.slice C k k) k (intsI (iotaI k))] []) (fun i => k - i) 0 ⟨rfl, trivial⟩ ⟨Nat.zero_le _, H⟩ ?_
    clear H
    rintro i u w3 ⟨hi, H⟩
    replace H : Hp _ _ _ _ _ := H
    refine len_sl Try.underlying32 ?_
    refine cond_dec (fun h7 => ?_) (fun h7 => ?_)
    · have hget : (intsI (iotaI k))[i]? = some (.int .i64 (i : Int)) := by
        unfold intsI iotaI
        rw [List.map_map, List.getElem?_map, List.getElem?_range (by omega)]; rfl
      obtain ⟨g, rfl⟩ := H.ownA 0 rfl (by omega)
      refine idxAddr_sl Try.underlying32 (s := 1) size3 i rfl (by omega) (o' := i) (by omega) ?_
      refine H.loadOwn 0 rfl agg3 hget ?_
      refine cond_no (bne_self_eq_false _) ?_
      exact ⟨i + 1, by show k - (i + 1) < k - i; omega, ⟨up (by omega), trivial⟩, by show i + 1 ≤ k; omega, H⟩
    · exact ⟨(), trivial, H⟩
  clear H
  rintro ⟨⟩ u w3 H
  replace H : Hp _ _ _ _ _ := H
  refine cut_rule (γ := Unit) _ rfl (fun _ => []) (fun _ w' => Hp w (fun _ => False) w' [own 3 1 (.slice C k k) k (intsI (iotaI k))] []) ?_ ?_
  · rcases hkn with ⟨h0 | h8, rfl⟩ | ⟨rfl, _⟩
    · iterate 3 refine cond_yes (decide_eq_true (by assumption)) ?_
      iterate 2 refine cond_yes rfl ?_
      refine len_sl Try.underlying32 ?_
      iterate 2 refine cond_yes rfl ?_
      iterate 3 refine cond_no rfl ?_
      iterate 2 refine cond_no (decide_eq_false (by omega)) ?_
      refine cond_no rfl ?_
      refine cond_no (decide_eq_false (by omega)) ?_
      iterate 9 refine cond_no rfl ?_
      exact ⟨(), trivial, H⟩
    · iterate 3 refine cond_no (decide_eq_false (by omega)) ?_
      iterate 2 refine cond_yes (decide_eq_true (by assumption)) ?_
      refine len_sl Try.underlying32 ?_
      iterate 2 refine cond_yes (decide_eq_true (by assumption)) ?_
      iterate 3 refine cond_no rfl ?_
      iterate 2 refine cond_yes (decide_eq_true (by omega)) ?_
      refine cond_no rfl ?_
      refine cond_yes (decide_eq_true (by omega)) ?_
      refine cond_no rfl ?_
      iterate 4 refine cond_no (decide_eq_false (by omega)) ?_
      refine cond_no rfl ?_
      refine cond_no (decide_eq_false (by omega)) ?_
      iterate 2 refine cond_no rfl ?_
      exact ⟨(), trivial, H⟩
    · iterate 3 refine cond_no rfl ?_
      iterate 4 refine cond_no (decide_eq_false (by omega)) ?_
      iterate 3 refine cond_no rfl ?_
      iterate 2 refine cond_yes rfl ?_
      refine cond_no rfl ?_
      refine cond_yes rfl ?_
      refine cond_no rfl ?_
      iterate 2 refine cond_yes (decide_eq_true (by omega)) ?_
      refine len_sl Try.underlying32 ?_
      iterate 2 refine cond_yes (decide_eq_true (by omega)) ?_
      refine cond_no rfl ?_
      refine cond_yes (decide_eq_true (by omega)) ?_
      refine cond_no rfl ?_
      refine cond_no (bne_eq_false_iff_eq.2 (by omega)) ?_
      exact ⟨(), trivial, H⟩
  clear H
  rintro ⟨⟩ u w4 H
  replace H : Hp _ _ _ _ _ := H
  have hc1 := fun w1 h1 h2 => c97 l ks A B c d w1 hl hz hk h1 h2
  have hc2 := fun w1 h1 h2 => c98 l ks A B c d w1 hl hz hk h1 h2
  by_cases hmay : MayS l ks
  · rw [if_pos hmay] at hc1
    rw [decide_eq_true hmay] at hc2
    have hc3 := fun w1 h1 h2 => c99 l ks A B c d w1 (by have := hmay.1; omega) hmay.2.1 h1 h2
    refine call_fn (hc1 _ (hA.same H.keeps) (hB.same H.keeps)) ?_
    rintro _ w5 ⟨rfl, hk⟩
    replace H := H.same hk
    clear hk
    refine call_fn (hc2 _ (hA.same H.keeps) (hB.same H.keeps)) ?_
    rintro _ w6 ⟨rfl, hk⟩
    replace H := H.same hk
    clear hk
    refine cond_no rfl ?_
    refine call_fn (hc3 _ (hA.same H.keeps) (hB.same H.keeps)) ?_
    rintro _ w8 ⟨rfl, hk⟩
    replace H := H.same hk
    clear hk
    iterate 3 refine cond_yes (beq_self_eq_true _) ?_
    refine cond_yes rfl ?_
    refine call_fn (c95 _) ?_
    rintro _ w13 ⟨rfl, hk⟩
    replace H := H.same hk
    clear hk
    refine cond_yes rfl ?_
    exact ⟨rfl, H.keeps⟩
  · rw [if_neg hmay] at hc1
    rw [decide_eq_false hmay] at hc2
    refine call_fn (hc1 _ (hA.same H.keeps) (hB.same H.keeps)) ?_
    rintro _ w5 ⟨rfl, hk⟩
    replace H := H.same hk
    clear hk
    refine call_fn (hc2 _ (hA.same H.keeps) (hB.same H.keeps)) ?_
    rintro _ w6 ⟨rfl, hk⟩
    replace H := H.same hk
    clear hk
    iterate 5 refine cond_yes rfl ?_
    refine call_fn (c95 _) ?_
    rintro _ w12 ⟨rfl, hk⟩
    replace H := H.same hk
    clear hk
    refine cond_yes rfl ?_
    exact ⟨rfl, H.keeps⟩
theorem law17 (v v1 : Value) (n : Int) (w : World) {l : List Nat} (hA : SetsAt w v l) {ks : List Int} (hk : IntsAt w v1 ks) : Fun Try.prog 17 [v, v1, .int .i64 n] w fun v w' => v = .bool true ∧ Same w w' := by
  obtain ⟨A, c, rfl, hl, hz, hS⟩ := hA
  obtain ⟨B, d, rfl, hk, _, hB⟩ := hk
  exact law17_m l ks A B c d n w hl hz hk hS hB
theorem ent18 : enters Try.prog 18 = true := by kernel_rfl
theorem law18_m (ks : List Int) (B : Option Addr) (d : Nat) (x p : Int) (w : World) (hk : ks.length ≤ 9223372036854775807) (hB : Sl w (.slice B ks.length d) 1 ks.length (intsI ks)) :
    Fun Try.prog 18 [.slice B ks.length d, .int .i64 x, .int .i64 p] w fun v w' => v = .bool true ∧ Same w w' := by
  refine fun_of_W (N := 74) Try.func18 ent18 rfl rfl rfl (by simp) ?_
  have H := Hp.start0 w
  refine cut_rule (γ := Unit) _ rfl (fun _ => []) (fun _ w' => Hp w (fun _ => False) w' [] []) ⟨(), trivial, H⟩ ?_
  clear H
  rintro ⟨⟩ u w0 H
  replace H : Hp _ _ _ _ _ := H
  refine cut_rule (γ := Unit) _ rfl (fun _ => []) (fun _ w' => ks.length ≤ 20 ∧ Hp w (fun _ => False) w' [] []) ?_ ?_
  · refine len_sl Try.underlying32 ?_
    refine cond_dec (fun h2 => ?_) (fun h2 => ?_)
    · refine call_fn (c95 _) ?_
      rintro _ w3 ⟨rfl, hk⟩
      replace H := H.same hk
      clear hk
      exact ⟨rfl, H.keeps⟩
    · exact ⟨(), trivial, by omega, H⟩
  clear H
  rintro ⟨⟩ u w1 ⟨hk20, H⟩
  replace H : Hp _ _ _ _ _ := H
  have hc := fun w1 h => c101 ks B d w1 hk h
  refine call_fn (c100 ks B d x p _ hk (hB.same H.keeps)) ?_
  rintro _ w2 (⟨hno, rfl, hk2⟩ | ⟨⟨hord, hx, hp⟩, g, e, rfl, hn⟩)
  · replace H := H.same hk2
    clear hk2
    by_cases hord : OrdI ks
    · rw [(ordB_iff ks).2 hord] at hc
      by_cases hx0 : x < 0
      · refine call_fn (hc _ (hB.same H.keeps)) ?_
        rintro _ w3 ⟨rfl, hk⟩
        replace H := H.same hk
        clear hk
        iterate 3 refine cond_no rfl ?_
        iterate 5 refine cond_yes (decide_eq_true (by assumption)) ?_
        iterate 9 refine cond_yes rfl ?_
        refine len_sl Try.underlying32 ?_
        iterate 4 refine cond_yes rfl ?_
        refine call_fn (c95 _) ?_
        rintro _ w26 ⟨rfl, hk⟩
        replace H := H.same hk
        clear hk
        refine cond_yes rfl ?_
        exact ⟨rfl, H.keeps⟩
      by_cases hx1 : (ks.length : Int) ≤ x
      · refine call_fn (hc _ (hB.same H.keeps)) ?_
        rintro _ w3 ⟨rfl, hk⟩
        replace H := H.same hk
        clear hk
        iterate 3 refine cond_no rfl ?_
        iterate 3 refine cond_no (decide_eq_false (by assumption)) ?_
        refine len_sl Try.underlying32 ?_
        iterate 2 refine cond_no (decide_eq_false (by assumption)) ?_
        iterate 3 refine cond_yes (decide_eq_true (by assumption)) ?_
        iterate 6 refine cond_yes rfl ?_
        refine len_sl Try.underlying32 ?_
        iterate 4 refine cond_yes rfl ?_
        refine call_fn (c95 _) ?_
        rintro _ w27 ⟨rfl, hk⟩
        replace H := H.same hk
        clear hk
        refine cond_yes rfl ?_
        exact ⟨rfl, H.keeps⟩
      by_cases hp0 : p < 0
      · refine call_fn (hc _ (hB.same H.keeps)) ?_
        rintro _ w3 ⟨rfl, hk⟩
        replace H := H.same hk
        clear hk
        iterate 3 refine cond_no rfl ?_
        iterate 3 refine cond_no (decide_eq_false (by assumption)) ?_
        refine len_sl Try.underlying32 ?_
        iterate 5 refine cond_no (decide_eq_false (by assumption)) ?_
        iterate 5 refine cond_yes (decide_eq_true (by assumption)) ?_
        refine cond_yes rfl ?_
        refine len_sl Try.underlying32 ?_
        iterate 4 refine cond_yes rfl ?_
        refine call_fn (c95 _) ?_
        rintro _ w27 ⟨rfl, hk⟩
        replace H := H.same hk
        clear hk
        refine cond_yes rfl ?_
        exact ⟨rfl, H.keeps⟩
      by_cases hp1 : (ks.length : Int) ≤ p
      · refine call_fn (hc _ (hB.same H.keeps)) ?_
        rintro _ w3 ⟨rfl, hk⟩
        replace H := H.same hk
        clear hk
        iterate 3 refine cond_no rfl ?_
        iterate 3 refine cond_no (decide_eq_false (by assumption)) ?_
        refine len_sl Try.underlying32 ?_
        iterate 8 refine cond_no (decide_eq_false (by assumption)) ?_
        refine len_sl Try.underlying32 ?_
        iterate 2 refine cond_no (decide_eq_false (by assumption)) ?_
        refine cond_yes (decide_eq_true (by assumption)) ?_
        refine len_sl Try.underlying32 ?_
        iterate 4 refine cond_yes rfl ?_
        refine call_fn (c95 _) ?_
        rintro _ w28 ⟨rfl, hk⟩
        replace H := H.same hk
        clear hk
        refine cond_yes rfl ?_
        exact ⟨rfl, H.keeps⟩
      exact absurd ⟨hord, by omega, by omega⟩ hno
    · have hb : orderB ks = false := by rw [Bool.eq_false_iff]; exact fun h => hord ((ordB_iff ks).1 h)
      rw [hb] at hc
      refine call_fn (hc _ (hB.same H.keeps)) ?_
      rintro _ w3 ⟨rfl, hk⟩
      replace H := H.same hk
      clear hk
      iterate 17 refine cond_yes rfl ?_
      refine len_sl Try.underlying32 ?_
      iterate 4 refine cond_yes rfl ?_
      refine call_fn (c95 _) ?_
      rintro _ w26 ⟨rfl, hk⟩
      replace H := H.same hk
      clear hk
      refine cond_yes rfl ?_
      exact ⟨rfl, H.keeps⟩
  · replace H := H.addNew hn
    clear hn
    rw [(ordB_iff ks).2 hord] at hc
    obtain ⟨q, rfl⟩ : ∃ q : Nat, p = q := ⟨p.toNat, by omega⟩
    have hml := move_len hord hx.1 hx.2 q
    have hrl := rest_len hord hx.1 hx.2
    have hget : (intsI (moveI ks x q))[q]? = some (.int .i64 x) := by rw [intsI, List.getElem?_map, move_get (by omega)]; rfl
    have hc2 := fun w1 h => c103 ks B d x q w1 hord hx (by omega) h
    have hc3 := fun B2 d2 w1 h1 h2 => c102 (moveI ks x q) (moveI ks x q) (some ⟨g, 0, none⟩) B2 e d2 w1 (by omega) (by omega) h1 h2
    rw [decide_eq_true rfl, hml] at hc3
    refine call_fn (hc _ (hB.same H.keeps)) ?_
    rintro _ w3 ⟨rfl, hk⟩
    replace H := H.same hk
    clear hk
    iterate 3 refine cond_no rfl ?_
    iterate 3 refine cond_no (decide_eq_false (by omega)) ?_
    refine len_sl Try.underlying32 ?_
    iterate 5 refine cond_no (decide_eq_false (by omega)) ?_
    iterate 3 refine cond_no rfl ?_
    refine len_sl Try.underlying32 ?_
    iterate 2 refine cond_no rfl ?_
    refine cond_no (decide_eq_false (by omega)) ?_
    refine call_fn (hc2 _ (hB.same H.keeps)) ?_
    rintro _ w23 ⟨g2, e2, rfl, hn⟩
    replace H := H.addNew hn
    clear hn
    refine call_fn (hc3 _ _ _ (own_Sl (H.get 1 rfl)) (own_Sl (H.get 0 rfl))) ?_
    rintro _ w24 ⟨rfl, hk⟩
    replace H := H.same hk
    clear hk
    iterate 6 refine cond_yes rfl ?_
    refine idxAddr_sl Try.underlying32 (s := 1) size3 q rfl (by omega) (o' := q) (by omega) ?_
    refine cond_yes rfl ?_
    refine H.loadOwn 1 rfl agg3 hget ?_
    iterate 3 refine cond_yes rfl ?_
    refine cond_yes (beq_self_eq_true _) ?_
    refine call_fn (c95 _) ?_
    rintro _ w38 ⟨rfl, hk⟩
    replace H := H.same hk
    clear hk
    refine cond_yes (beq_self_eq_true _) ?_
    exact ⟨rfl, H.keeps⟩
theorem law18 (v : Value) (x p : Int) (w : World) {ks : List Int} (hk : IntsAt w v ks) : Fun Try.prog 18 [v, .int .i64 x, .int .i64 p] w fun v w' => v = .bool true ∧ Same w w' := by
  obtain ⟨B, d, rfl, hk, _, hB⟩ := hk
  exact law18_m ks B d x p w hk hB
end Go.Proofs.Ytjebpngdinbckaa
end

section
/- Laws 19 and 20. -/
namespace Go.Proofs.Ytjebpngdinbckaa
open Go.Dk
attribute [local irreducible] IntKind.wrap

theorem ent19 : enters Try.prog 19 = true := by kernel_rfl
theorem law19_m (l : List Nat) (ks : List Int) (A B : Option Addr) (c d : Nat) (n : Int) (w : World) (hl : l.length ≤ 9223372036854775807) (hz : ∀ s ∈ l, s < 2 ^ 256) (hk : ks.length ≤ 9223372036854775807)
    (hA : Sl w (.slice A l.length c) 4 l.length (flat encZ l)) (hB : Sl w (.slice B ks.length d) 1 ks.length (intsI ks)) :
    Fun Try.prog 19 [.slice A l.length c, .slice B ks.length d, .int .i64 n] w fun v w' => v = .bool true ∧ Same w w' := by
  refine fun_of_W (N := 61) Try.func19 ent19 rfl rfl rfl (by simp) ?_
  have H := Hp.start0 w
  refine cut_rule (γ := Unit) _ rfl (fun _ => []) (fun _ w' => Hp w (fun _ => False) w' [] []) ⟨(), trivial, H⟩ ?_
  clear H
  rintro ⟨⟩ u w0 H
  replace H : Hp _ _ _ _ _ := H
  have hc2 := fun w1 h1 h2 => c98 l ks A B c d w1 hl hz hk h1 h2
  have hc0 := fun w1 => c94 A B l.length ks.length c d w1
  refine cut_rule (γ := Unit) _ rfl (fun _ => []) (fun _ w' => (l.length ≤ 20 ∧ ks.length ≤ 20) ∧ Hp w (fun _ => False) w' [] []) ?_ ?_
  · by_cases hg : 20 < l.length ∨ 20 < ks.length
    · rw [decide_eq_true hg] at hc0
      refine call_fn (hc0 _) ?_
      rintro _ w1 ⟨rfl, hk⟩
      replace H := H.same hk
      clear hk
      iterate 7 refine cond_yes rfl ?_
      refine call_fn (c95 _) ?_
      rintro _ w9 ⟨rfl, hk⟩
      replace H := H.same hk
      clear hk
      exact ⟨rfl, H.keeps⟩
    · rw [decide_eq_false hg] at hc0
      by_cases h5 : (5 : Int) < ks.length
      · by_cases hmay : MayS l ks
        · rw [decide_eq_true hmay] at hc2
          refine call_fn (hc0 _) ?_
          rintro _ w1 ⟨rfl, hk⟩
          replace H := H.same hk
          clear hk
          iterate 2 refine cond_no rfl ?_
          refine len_sl Try.underlying32 ?_
          iterate 2 refine cond_no rfl ?_
          iterate 3 refine cond_yes (decide_eq_true (by assumption)) ?_
          refine call_fn (hc2 _ (hA.same H.keeps) (hB.same H.keeps)) ?_
          rintro _ w11 ⟨rfl, hk⟩
          replace H := H.same hk
          clear hk
          refine cond_no rfl ?_
          refine cond_yes (decide_eq_true (by assumption)) ?_
          refine cond_no rfl ?_
          refine cond_yes rfl ?_
          refine call_fn (c95 _) ?_
          rintro _ w16 ⟨rfl, hk⟩
          replace H := H.same hk
          clear hk
          exact ⟨rfl, H.keeps⟩
        · rw [decide_eq_false hmay] at hc2
          refine call_fn (hc0 _) ?_
          rintro _ w1 ⟨rfl, hk⟩
          replace H := H.same hk
          clear hk
          iterate 2 refine cond_no rfl ?_
          refine len_sl Try.underlying32 ?_
          iterate 2 refine cond_no rfl ?_
          iterate 3 refine cond_yes (decide_eq_true (by assumption)) ?_
          refine call_fn (hc2 _ (hA.same H.keeps) (hB.same H.keeps)) ?_
          rintro _ w11 ⟨rfl, hk⟩
          replace H := H.same hk
          clear hk
          refine cond_no rfl ?_
          refine cond_yes (decide_eq_true (by assumption)) ?_
          iterate 2 refine cond_no rfl ?_
          exact ⟨(), trivial, by omega, H⟩
      · refine call_fn (hc0 _) ?_
        rintro _ w1 ⟨rfl, hk⟩
        replace H := H.same hk
        clear hk
        iterate 2 refine cond_no rfl ?_
        refine len_sl Try.underlying32 ?_
        iterate 2 refine cond_no rfl ?_
        iterate 3 refine cond_no (decide_eq_false (by assumption)) ?_
        refine cond_no rfl ?_
        refine cond_no (decide_eq_false (by assumption)) ?_
        iterate 2 refine cond_no rfl ?_
        exact ⟨(), trivial, by omega, H⟩
  clear H
  rintro ⟨⟩ u w1 ⟨⟨hl20, hk20⟩, H⟩
  replace H : Hp _ _ _ _ _ := H
  by_cases hmay : MayS l ks
  rotate_left
  · refine call_fn (c104 l ks A B c d n _ hl hz hk (hA.same H.keeps) (hB.same H.keeps)) ?_
    rintro _ w2 (⟨_, rfl, hk2⟩ | ⟨h, _⟩)
    rotate_left
    · exact absurd h hmay
    replace H := H.same hk2
    clear hk2
    rw [decide_eq_false hmay] at hc2
    refine call_fn (hc2 _ (hA.same H.keeps) (hB.same H.keeps)) ?_
    rintro _ w3 ⟨rfl, hk⟩
    replace H := H.same hk
    clear hk
    refine cond_yes rfl ?_
    refine len_sl Try.underlying32 ?_
    iterate 4 refine cond_yes rfl ?_
    refine call_fn (c95 _) ?_
    rintro _ w10 ⟨rfl, hk⟩
    replace H := H.same hk
    clear hk
    refine cond_yes rfl ?_
    exact ⟨rfl, H.keeps⟩
  · rw [decide_eq_true hmay] at hc2
    have hs := sifts_ok (cost := sizesS l) hmay.2.1 (min n.toNat 4)
    have hlen := hs.len
    refine cut_rule (γ := Option Addr × Nat) _ rfl (fun (C, e) => [(7, .slice C ks.length e), (8, .int .i64 0)]) (fun (C, e) w' => Hp w (fun _ => False) w' [own 3 1 (.slice C ks.length e) ks.length (intsI (sifts (sizesS l) ks (min n.toNat 4)))] []) ?_ ?_
    · refine call_fn (c104 l ks A B c d n _ hl hz hk (hA.same H.keeps) (hB.same H.keeps)) ?_
      rintro _ w2 (⟨hno, _⟩ | ⟨_, C, e, rfl, hn⟩)
      · exact absurd hmay hno
      · exact ⟨(C, e), ⟨rfl, rfl, trivial⟩, H.addNew hn⟩
    clear H
    rintro ⟨C, e⟩ u w3 H
    replace H : Hp _ _ _ _ _ := H
    refine cut_rule (γ := Unit) _ rfl (fun _ => []) (fun _ w' => Hp w (fun _ => False) w' [own 3 1 (.slice C ks.length e) ks.length (intsI (sifts (sizesS l) ks (min n.toNat 4)))] []) ?_ ?_
    · refine call_fn (hc2 _ (hA.same H.keeps) (hB.same H.keeps)) ?_
      rintro _ w2 ⟨rfl, hk⟩
      replace H := H.same hk
      clear hk
      refine cond_no rfl ?_
      exact ⟨(), trivial, H⟩
    clear H
    rintro ⟨⟩ u w4 H
    replace H : Hp _ _ _ _ _ := H
    refine cut_rule (γ := Unit) _ rfl (fun _ => [(2, .int .i64 (n.toNat : Int))]) (fun _ w' => Hp w (fun _ => False) w' [own 3 1 (.slice C ks.length e) ks.length (intsI (sifts (sizesS l) ks (min n.toNat 4)))] []) ?_ ?_
    · refine cond_dec (fun h => ?_) (fun h => ?_)
      · exact ⟨(), ⟨congrArg (Value.int .i64) (by omega), trivial⟩, H⟩
      · exact ⟨(), ⟨congrArg (Value.int .i64) (by omega), trivial⟩, H⟩
    clear H
    rintro ⟨⟩ u w5 H
    replace H : Hp _ _ _ _ _ := H
    refine cut_rule (γ := Unit) _ rfl (fun _ => [(2, .int .i64 ((min n.toNat 4 : Nat) : Int))]) (fun _ w' => Hp w (fun _ => False) w' [own 3 1 (.slice C ks.length e) ks.length (intsI (sifts (sizesS l) ks (min n.toNat 4)))] []) ?_ ?_
    · refine cond_dec (fun h => ?_) (fun h => ?_)
      · exact ⟨(), ⟨congrArg (Value.int .i64) (by omega), trivial⟩, H⟩
      · exact ⟨(), ⟨congrArg (Value.int .i64) (by omega), trivial⟩, H⟩
    clear H
    rintro ⟨⟩ u w6 H
    replace H : Hp _ _ _ _ _ := H
    have hc5 := fun w1 h1 h2 => c105 l ks A B c d (min n.toNat 4) w1 (by have := hmay.1; omega) (by omega) hmay h1 h2
    have hc3 := fun C2 e2 w1 h1 h2 => c102 (sifts (sizesS l) ks (min n.toNat 4)) (sifts (sizesS l) ks (min n.toNat 4)) C C2 e e2 w1 (by omega) (by omega) h1 h2
    rw [decide_eq_true rfl, hlen] at hc3
    refine call_fn (hc5 _ (hA.same H.keeps) (hB.same H.keeps)) ?_
    rintro _ w2 ⟨C2, e2, rfl, hn⟩
    replace H := H.addNew hn
    clear hn
    refine call_fn (hc3 _ _ _ (own_Sl (H.get 1 rfl)) (own_Sl (H.get 0 rfl))) ?_
    rintro _ w7 ⟨rfl, hk⟩
    replace H := H.same hk
    clear hk
    iterate 4 refine cond_yes rfl ?_
    refine call_fn (c95 _) ?_
    rintro _ w12 ⟨rfl, hk⟩
    replace H := H.same hk
    clear hk
    refine cond_yes rfl ?_
    exact ⟨rfl, H.keeps⟩
theorem law19 (v v1 : Value) (n : Int) (w : World) {l : List Nat} (hA : SetsAt w v l) {ks : List Int} (hk : IntsAt w v1 ks) : Fun Try.prog 19 [v, v1, .int .i64 n] w fun v w' => v = .bool true ∧ Same w w' := by
  obtain ⟨A, c, rfl, hl, hz, hS⟩ := hA
  obtain ⟨B, d, rfl, hk, _, hB⟩ := hk
  exact law19_m l ks A B c d n w hl hz hk hS hB
theorem ent20 : enters Try.prog 20 = true := by kernel_rfl
theorem law20_m (l : List Nat) (ks : List Int) (A B : Option Addr) (c d : Nat) (n : Int) (w : World) (hl : l.length ≤ 9223372036854775807) (hz : ∀ s ∈ l, s < 2 ^ 256) (hk : ks.length ≤ 9223372036854775807)
    (hA : Sl w (.slice A l.length c) 4 l.length (flat encZ l)) (hB : Sl w (.slice B ks.length d) 1 ks.length (intsI ks)) :
    Fun Try.prog 20 [.slice A l.length c, .slice B ks.length d, .int .i64 n] w fun v w' => v = .bool true ∧ Same w w' := by
  refine fun_of_W (N := 66) Try.func20 ent20 rfl rfl rfl (by simp) ?_
  have H := Hp.start0 w
  refine cut_rule (γ := Unit) _ rfl (fun _ => []) (fun _ w' => Hp w (fun _ => False) w' [] []) ⟨(), trivial, H⟩ ?_
  clear H
  rintro ⟨⟩ u w0 H
  replace H : Hp _ _ _ _ _ := H
  have hc2 := fun w1 h1 h2 => c98 l ks A B c d w1 hl hz hk h1 h2
  refine cut_rule (γ := Unit) _ rfl (fun _ => []) (fun _ w' => MayS l ks ∧ Hp w (fun _ => False) w' [] []) ?_ ?_
  · by_cases hmay : MayS l ks
    · rw [decide_eq_true hmay] at hc2
      refine call_fn (hc2 _ (hA.same H.keeps) (hB.same H.keeps)) ?_
      rintro _ w1 ⟨rfl, hk⟩
      replace H := H.same hk
      clear hk
      refine cond_no rfl ?_
      exact ⟨(), trivial, hmay, H⟩
    · rw [decide_eq_false hmay] at hc2
      refine call_fn (hc2 _ (hA.same H.keeps) (hB.same H.keeps)) ?_
      rintro _ w1 ⟨rfl, hk⟩
      replace H := H.same hk
      clear hk
      refine cond_yes rfl ?_
      refine call_fn (c95 _) ?_
      rintro _ w3 ⟨rfl, hk⟩
      replace H := H.same hk
      clear hk
      exact ⟨rfl, H.keeps⟩
  clear H
  rintro ⟨⟩ u w1 ⟨hmay, H⟩
  replace H : Hp _ _ _ _ _ := H
  have hs := sifts_ok (cost := sizesS l) hmay.2.1 (min n.toNat 4)
  have hlen := hs.len
  have hle := hs.le
  have hms := may_sift hmay hs
  refine cut_rule (γ := Option Addr × Nat) _ rfl (fun (C, e) => [(7, .slice C ks.length e), (8, .int .i64 0)]) (fun (C, e) w' => Hp w (fun _ => False) w' [own 3 1 (.slice C ks.length e) ks.length (intsI (sifts (sizesS l) ks (min n.toNat 4)))] []) ?_ ?_
  · refine call_fn (c104 l ks A B c d n _ hl hz hk (hA.same H.keeps) (hB.same H.keeps)) ?_
    rintro _ w2 (⟨hno, _⟩ | ⟨_, C, e, rfl, hn⟩)
    · exact absurd hmay hno
    · exact ⟨(C, e), ⟨rfl, rfl, trivial⟩, H.addNew hn⟩
  clear H
  rintro ⟨C, e⟩ u w2 H
  replace H : Hp _ _ _ _ _ := H
  have hc1 := fun w1 h1 h2 => c97 l ks A B c d w1 hl hz hk h1 h2
  rw [if_pos hmay] at hc1
  have hc3 := fun w1 h1 h2 => c97 l (sifts (sizesS l) ks (min n.toNat 4)) A C c e w1 hl hz (by omega) h1 h2
  rw [if_pos hms, hlen] at hc3
  have hc4 := fun w1 h => c101 (sifts (sizesS l) ks (min n.toNat 4)) C e w1 (by omega) h
  rw [(ordB_iff _).2 hs.ord, hlen] at hc4
  refine call_fn (hc1 _ (hA.same H.keeps) (hB.same H.keeps)) ?_
  rintro _ w3 ⟨rfl, hk⟩
  replace H := H.same hk
  clear hk
  refine call_fn (hc3 _ (hA.same H.keeps) (own_Sl (H.get 0 rfl))) ?_
  rintro _ w4 ⟨rfl, hk⟩
  replace H := H.same hk
  clear hk
  iterate 10 refine cond_yes rfl ?_
  iterate 2 refine cond_yes (decide_eq_true (by omega)) ?_
  refine call_fn (hc4 _ (own_Sl (H.get 0 rfl))) ?_
  rintro _ w17 ⟨rfl, hk⟩
  replace H := H.same hk
  clear hk
  refine cond_yes (decide_eq_true (by omega)) ?_
  iterate 2 refine cond_yes rfl ?_
  refine len_sl Try.underlying32 ?_
  iterate 2 refine cond_yes rfl ?_
  refine len_sl Try.underlying32 ?_
  iterate 2 refine cond_yes rfl ?_
  refine cond_yes (beq_self_eq_true _) ?_
  refine call_fn (c95 _) ?_
  rintro _ w28 ⟨rfl, hk⟩
  replace H := H.same hk
  clear hk
  refine cond_yes (beq_self_eq_true _) ?_
  exact ⟨rfl, H.keeps⟩
theorem law20 (v v1 : Value) (n : Int) (w : World) {l : List Nat} (hA : SetsAt w v l) {ks : List Int} (hk : IntsAt w v1 ks) : Fun Try.prog 20 [v, v1, .int .i64 n] w fun v w' => v = .bool true ∧ Same w w' := by
  obtain ⟨A, c, rfl, hl, hz, hS⟩ := hA
  obtain ⟨B, d, rfl, hk, _, hB⟩ := hk
  exact law20_m l ks A B c d n w hl hz hk hS hB
end Go.Proofs.Ytjebpngdinbckaa
end

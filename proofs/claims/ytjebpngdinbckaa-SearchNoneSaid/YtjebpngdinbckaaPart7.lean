import Derived.Test.YtjebpngdinbckaaPart6
/- Lemmas, part 7: what the proof of the row uses. -/
section
/- Coverings: Reduce. -/
namespace Go.Proofs.Ytjebpngdinbckaa
open Go.Dk
attribute [local irreducible] IntKind.wrap

section
variable {w0 w w' : World} {F : Nat → Prop} {L M L2 M2 : List Res} {r r' : Res}
/-- What a call holds is laid to what there is. -/
theorem _root_.Go.Dk.Hp.merge (H : Hp w0 F w L M) (H2 : Hp w (fun _ => False) w' L2 M2) (hM : ∀ r ∈ M2, ∀ g, r.foot g → w.heap.size ≤ g ∨ ∃ s ∈ M, s.foot g) : Hp w0 F w' (L2 ++ L) (M2 ++ M) := by
  have H' := H.same H2.keeps
  have hnew2 : ∀ r ∈ L2, ∀ g, r.foot g → w.heap.size ≤ g := fun r hr g hg => (H2.new r hr g hg).resolve_right id
  refine ⟨H'.keeps, ?_, ?_, ?_, ?_, ?_, ?_, ?_⟩
  · intro r hr
    rcases List.mem_append.1 hr with hr | hr
    · exact H2.ok r hr
    · exact H'.ok r hr
  · intro r hr
    rcases List.mem_append.1 hr with hr | hr
    · exact H2.lt r hr
    · exact H'.lt r hr
  · intro r hr g hg
    rcases List.mem_append.1 hr with hr | hr
    · exact .inl (Nat.le_trans H.keeps.size (hnew2 r hr g hg))
    · exact H.new r hr g hg
  · refine List.pairwise_append.2 ⟨H2.dis, H.dis, fun r hr s hs g h1 h2 => ?_⟩
    have := hnew2 r hr g h1
    have := H.lt s hs g h2
    omega
  · intro r hr
    rcases List.mem_append.1 hr with hr | hr
    · exact H2.rok r hr
    · exact H'.rok r hr
  · intro r hr
    rcases List.mem_append.1 hr with hr | hr
    · exact H2.rlt r hr
    · exact H'.rlt r hr
  · intro r hr s hs g h1 h2
    rcases List.mem_append.1 hr with hr | hr
    · rcases List.mem_append.1 hs with hs | hs
      · exact H2.rdis r hr s hs g h1 h2
      · rcases hM r hr g h1 with h3 | ⟨q, hq, h3⟩
        · have := H.lt s hs g h2
          omega
        · exact H.rdis q hq s hs g h3 h2
    · rcases List.mem_append.1 hs with hs | hs
      · have := hnew2 s hs g h2
        have := H.rlt r hr g h1
        omega
      · exact H.rdis r hr s hs g h1 h2
/-- A callee turns one part, and hands back something that is read. -/
theorem _root_.Go.Dk.Hp.turnAdd (H : Hp w0 F w L M) (n : Nat) (hn : L[n]? = some r) (h : Turn w w' r r') (s : Res) (hs : s.ok w') (hf : ∀ g, s.foot g → g < w'.heap.size ∧ (w.heap.size ≤ g ∨ ∃ q ∈ M, q.foot g)) (hd : ∀ g, s.foot g → ¬ r'.foot g) :
    Hp w0 F w' (L.set n r') (s :: M) := by
  have H' := H.turnBy n hn h
  refine ⟨H'.keeps, H'.ok, H'.lt, H'.new, H'.dis, ?_, ?_, ?_⟩
  · intro q hq
    rcases List.mem_cons.1 hq with rfl | hq
    · exact hs
    · exact H'.rok q hq
  · intro q hq g hg
    rcases List.mem_cons.1 hq with rfl | hq
    · exact (hf g hg).1
    · exact H'.rlt q hq g hg
  · intro q hq t ht g h1 h2
    rcases List.mem_cons.1 hq with rfl | hq
    · rcases List.mem_or_eq_of_mem_set ht with ht | rfl
      · obtain ⟨j, hj, hje⟩ := List.getElem_of_mem ht
        rcases (hf g h1).2 with h3 | ⟨q2, hq2, h3⟩
        · have := H.lt t ht g h2
          omega
        · exact H.rdis q2 hq2 t ht g h3 h2
      · exact hd g h1 h2
    · exact H'.rdis q hq t ht g h1 h2
end
def vbB (b : Bool) : Value := .bool b
theorem W210 : MapW Try.prog 210 3 4 kaI vbB (.bool false) := ⟨Try.underlying210, KL3, kaI_inj, by kernel_rfl⟩
theorem agg210 : aggT Try.prog 210 = some false := by kernel_rfl
/-- The covering that is worked on, and the columns that were taken. -/
def stP (g1 r : Nat) (cols : Int) (v : Value) (l : List (Int × Bool)) : List Res := [blk g1 91 (mc cols v), mapR kaI vbB r l]
def stR (g1 r : Nat) (cols : Int) (v : Value) (l : List (Int × Bool)) : Res := seps (stP g1 r cols v l)
/-- What a step's closure does. -/
structure StepC (S : Nat → Prop) (w w' : World) (g1 r : Nat) (cols : Int) (v v' : Value) (l l' : List (Int × Bool)) (R' : Mat) (S' : Nat → Prop) : Prop where
  turn : Turn w w' (stR g1 r cols v l) (stR g1 r cols v' l')
  mat : matOk S' v' R' w'
  foot : ∀ g, S' g → g < w'.heap.size ∧ (w.heap.size ≤ g ∨ S g)
  dis : ∀ g, S' g → ¬ (stR g1 r cols v' l').foot g
theorem mc_of {S : Nat → Prop} {v : Value} {R : Mat} {w : World} {cols : Int} (h : matOk S v R w) : ∀ u ∈ (mc cols v).toList, u.oneCell' = true := by
  obtain ⟨A, c, rfl⟩ := h.form
  exact fun u hu => mc_one u hu
theorem stStart {S : Nat → Prop} {w : World} {g1 r : Nat} {cols : Int} {v : Value} {l : List (Int × Bool)} {R : Mat} {M : List Res} (h : (stR g1 r cols v l).ok w) (hm : matOk S v R w) (hS : ∀ g, S g → g < w.heap.size) (hd : ∀ g, S g → ¬ (stR g1 r cols v l).foot g)
    (hM : ∀ q ∈ M, q.ok w ∧ ∀ g, q.foot g → g < w.heap.size ∧ ¬ (stR g1 r cols v l).foot g) : Hp w (stR g1 r cols v l).foot w [blk g1 91 (mc cols v), mapR kaI vbB r l] (MatR S v R :: M) := by
  have hlt : ∀ g, (stR g1 r cols v l).foot g → g < w.heap.size := fun g ⟨q, hq, hg⟩ => h.2.1 q hq g hg
  have H := Hp.own1M (M := MatR S v R :: M) h hlt (fun q hq => by
    rcases List.mem_cons.1 hq with rfl | hq
    · exact hm
    · exact (hM q hq).1) (fun q hq g hg => by
    rcases List.mem_cons.1 hq with rfl | hq
    · exact hS g hg
    · exact ((hM q hq).2 g hg).1) (fun q hq g hg => by
    rcases List.mem_cons.1 hq with rfl | hq
    · exact hd g hg
    · exact ((hM q hq).2 g hg).2)
  have H2 := Hp.split (Ls := stP g1 r cols v l) (L := []) H
  simpa [stP] using H2
theorem stEnd {S S' : Nat → Prop} {w w' : World} {g1 r : Nat} {cols : Int} {v v' : Value} {l l' : List (Int × Bool)} {R' : Mat} {M : List Res} (H : Hp w (stR g1 r cols v l).foot w' [blk g1 91 (mc cols v'), mapR kaI vbB r l'] (MatR S' v' R' :: M))
    (hS' : ∀ g, S' g → w.heap.size ≤ g ∨ S g) : StepC S w w' g1 r cols v v' l l' R' S' := by
  have H2 : Hp w (stR g1 r cols v l).foot w' [stR g1 r cols v' l'] (MatR S' v' R' :: M) := Hp.join (Ls := stP g1 r cols v' l') (L := []) (by simpa [stP] using H)
  exact ⟨H2.outTurn, H2.ro 0 rfl, fun g hg => ⟨H2.rlt _ (.head _) g hg, hS' g hg⟩, fun g hg => H2.rdis _ (.head _) _ (.head _) g hg⟩
def takeL (l : List (Int × Bool)) : Option (Mat × Int) → List (Int × Bool)
  | some (_, k) => aset l k true
  | none => l
theorem ent179 : enters Try.prog 179 = true := by kernel_rfl
theorem c179 (cols : Int) (R : Mat) (v : Value) (S : Nat → Prop) (g1 g5 r : Nat) (l : List (Int × Bool)) (w : World) (hl : R.length ≤ 1000000000) (hlr : ∀ r ∈ R, r.length ≤ 1000000000) (h : (stR g1 r cols v l).ok w)
    (hm : matOk S v R w) (hS : ∀ g, S g → g < w.heap.size) (hd : ∀ g, S g → ¬ (stR g1 r cols v l).foot g) (h5 : (blk g5 210 #[.map (some r)]).ok w) (h5d : ¬ (stR g1 r cols v l).foot g5) :
    Fun Try.prog 179 [.pointer (some ⟨g1, 0, none⟩), .pointer (some ⟨g5, 0, none⟩)] w fun o w' => ∃ v' S', o = .bool (takeO cols R).isSome ∧ StepC S w w' g1 r cols v v' l (takeL l (takeO cols R)) (((takeO cols R).map (·.1)).getD R) S' := by
  refine fun_of_W (N := 17) Try.func179 ent179 rfl rfl rfl (by simp) ?_
  have H := stStart (M := [blk g5 210 #[.map (some r)]]) h hm hS hd (fun q hq => by
    rw [List.mem_singleton] at hq; subst hq
    exact ⟨h5, fun g hg => by subst hg; exact ⟨blk_lt h5, h5d⟩⟩)
  obtain ⟨A0, c0, rfl⟩ := hm.form
  refine H.loadAll 0 rfl agg91 size91 ?_
  refine call_fn (c81 cols R _ S _ hl hlr hm hS) ?_
  rintro _ w1 ⟨v', rfl, hn⟩
  obtain ⟨S', H2, hS'⟩ := H.addM (.head _) hn
  clear H
  replace H := H2
  clear H2
  obtain ⟨A1, c1, rfl⟩ := (H.ro 0 rfl).form
  refine H.alloc 91 zero91 rfl ?_
  clear H
  intro g3 w2 H
  refine H.storeAll 0 rfl size91 rfl (fun v hv => mc_one v hv) ?_
  clear H
  intro w3 H
  refine H.loadAll 0 rfl agg91 size91 ?_
  refine H.storeAll 1 rfl size91 rfl (fun v hv => mc_one v hv) ?_
  clear H
  intro w4 H
  have H3 := H.forget
  clear H
  cases ht : takeO cols R with
  | none =>
    rw [ht] at H3
    refine cond_no rfl ?_
    exact ⟨_, S', rfl, stEnd H3 hS'⟩
  | some p =>
    obtain ⟨R', k⟩ := p
    rw [ht] at H3
    refine cond_yes rfl ?_
    refine ld_blk (H3.ro 2 rfl) agg210 rfl ?_
    refine H3.mapSet 1 rfl W210 k true ?_
    clear H3
    intro w5 H
    exact ⟨_, S', rfl, stEnd H hS'⟩
theorem ent180 : enters Try.prog 180 = true := by kernel_rfl
theorem c180 (cols : Int) (R : Mat) (v : Value) (S : Nat → Prop) (g1 r : Nat) (l : List (Int × Bool)) (w : World) (hl : R.length ≤ 1000000000) (hlr : ∀ r ∈ R, r.length ≤ 1000000000) (h : (stR g1 r cols v l).ok w)
    (hm : matOk S v R w) (hS : ∀ g, S g → g < w.heap.size) (hd : ∀ g, S g → ¬ (stR g1 r cols v l).foot g) :
    Fun Try.prog 180 [.pointer (some ⟨g1, 0, none⟩)] w fun o w' => ∃ v' S', o = .bool (rowsO cols R).isSome ∧ StepC S w w' g1 r cols v v' l l ((rowsO cols R).getD R) S' := by
  refine fun_of_W (N := 11) Try.func180 ent180 rfl rfl rfl (by simp) ?_
  have H := stStart (M := []) h hm hS hd (by simp)
  obtain ⟨A0, c0, rfl⟩ := hm.form
  refine H.loadAll 0 rfl agg91 size91 ?_
  refine call_fn (c82 cols R _ S _ hl hlr hm hS) ?_
  rintro _ w1 ⟨v', rfl, hn⟩
  obtain ⟨S', H2, hS'⟩ := H.addM (.head _) hn
  clear H
  replace H := H2
  clear H2
  obtain ⟨A1, c1, rfl⟩ := (H.ro 0 rfl).form
  refine H.alloc 91 zero91 rfl ?_
  clear H
  intro g3 w2 H
  refine H.storeAll 0 rfl size91 rfl (fun v hv => mc_one v hv) ?_
  clear H
  intro w3 H
  refine H.loadAll 0 rfl agg91 size91 ?_
  refine H.storeAll 1 rfl size91 rfl (fun v hv => mc_one v hv) ?_
  clear H
  intro w4 H
  exact ⟨_, S', rfl, stEnd H.forget hS'⟩
theorem ent181 : enters Try.prog 181 = true := by kernel_rfl
theorem c181 (cols : Int) (R : Mat) (v : Value) (S : Nat → Prop) (g1 r : Nat) (l : List (Int × Bool)) (w : World) (hl : R.length ≤ 1000000000) (hlr : ∀ r ∈ R, r.length ≤ 1000000000) (h : (stR g1 r cols v l).ok w)
    (hm : matOk S v R w) (hS : ∀ g, S g → g < w.heap.size) (hd : ∀ g, S g → ¬ (stR g1 r cols v l).foot g) :
    Fun Try.prog 181 [.pointer (some ⟨g1, 0, none⟩)] w fun o w' => ∃ v' S', o = .bool (colsO cols R).isSome ∧ StepC S w w' g1 r cols v v' l l ((colsO cols R).getD R) S' := by
  refine fun_of_W (N := 11) Try.func181 ent181 rfl rfl rfl (by simp) ?_
  have H := stStart (M := []) h hm hS hd (by simp)
  obtain ⟨A0, c0, rfl⟩ := hm.form
  refine H.loadAll 0 rfl agg91 size91 ?_
  refine call_fn (c83 cols R _ S _ hl hlr hm hS) ?_
  rintro _ w1 ⟨v', rfl, hn⟩
  obtain ⟨S', H2, hS'⟩ := H.addM (.head _) hn
  clear H
  replace H := H2
  clear H2
  obtain ⟨A1, c1, rfl⟩ := (H.ro 0 rfl).form
  refine H.alloc 91 zero91 rfl ?_
  clear H
  intro g3 w2 H
  refine H.storeAll 0 rfl size91 rfl (fun v hv => mc_one v hv) ?_
  clear H
  intro w3 H
  refine H.loadAll 0 rfl agg91 size91 ?_
  refine H.storeAll 1 rfl size91 rfl (fun v hv => mc_one v hv) ?_
  clear H
  intro w4 H
  exact ⟨_, S', rfl, stEnd H.forget hS'⟩
end Go.Proofs.Ytjebpngdinbckaa
end

section
/- Coverings: Reduce, the whole. -/
namespace Go.Proofs.Ytjebpngdinbckaa
open Go.Dk
attribute [local irreducible] IntKind.wrap

theorem _root_.Go.Dk.Hp.only {w0 w : World} {F : Nat → Prop} {L M : List Res} {r : Res} (H : Hp w0 F w (r :: L) M) : Hp w0 F w [r] M := by
  have hm : ∀ s, s ∈ [r] → s ∈ r :: L := fun s hs => by rw [List.mem_singleton] at hs; subst hs; exact .head _
  exact ⟨H.keeps, fun s hs => H.ok s (hm s hs), fun s hs => H.lt s (hm s hs), fun s hs => H.new s (hm s hs), List.pairwise_singleton _ _, H.rok, H.rlt, fun q hq s hs => H.rdis q hq s (hm s hs)⟩
theorem _root_.Go.Dk.Hp.onlyRO {w0 w : World} {F : Nat → Prop} {L M : List Res} {r : Res} (H : Hp w0 F w L (r :: M)) : Hp w0 F w L [r] := H.weakenRO fun q hq => by rw [List.mem_singleton] at hq; subst hq; exact .head _
theorem T211 : SlT Try.prog 211 37 .nilFunc 1 8 := ⟨Try.underlying211, by kernel_rfl, rfl, by decide⟩
theorem agg37 : aggT Try.prog 37 = some false := by kernel_rfl
theorem size37 : sizeT Try.prog 37 = some 1 := by kernel_rfl
theorem zero210 : zeroT Try.prog 210 = some (.map none) := by kernel_rfl
theorem size210 : sizeT Try.prog 210 = some 1 := by kernel_rfl
theorem build91z {w : World} {kk : Value → World → Prop} (h : kk (mv 0 (.slice none 0 0)) w) : buildK Try.prog 91 [] w kk := build_by (fun w => by kernel_rfl) h
/-- What Reduce answers. -/
def redT (cols : Int) (R : Mat) : List Int := if rightB cols R then risen cols.toNat (endS cols.toNat (R, [])).2 else []
def redR (cols : Int) (R : Mat) : Mat := if rightB cols R then (endS cols.toNat (R, [])).1 else []
def redC (cols : Int) (R : Mat) : Int := if rightB cols R then cols else 0
def redE (cols : Int) (R : Mat) : Int := if rightB cols R then 0 else 1
def lOk (l : List (Int × Bool)) (T : List Int) : Prop := ∀ c, aget l c = if c ∈ T then some true else none
theorem lOk.add {l : List (Int × Bool)} {T : List Int} (h : lOk l T) (k : Int) : lOk (aset l k true) (T ++ [k]) := fun c => by
  rw [aget_aset, h c]
  by_cases hc : c = k
  · subst hc; simp
  · simp [hc]
theorem matNil (S : Nat → Prop) (w : World) : matOk S (.slice none 0 0) [] w := ⟨none, 0, [], rfl, ⟨rfl, none, 0, rfl, Nat.le_refl _, .inl rfl⟩, fun i u ks h => by simp at h⟩
theorem run_succ {cols : Nat} {s s' : Mat × List Int} {k : Nat} (h : stepS cols (runS cols s k) = some s') : runS cols s (k + 1) = s' := by
  show (stepS cols (runS cols s k)).getD (runS cols s k) = s'
  rw [h]; rfl
def clos (g1 g5 : Nat) : Array Value := #[.func (.func 179) #[] #[.pointer (some ⟨g1, 0, none⟩), .pointer (some ⟨g5, 0, none⟩)], .func (.func 180) #[] #[.pointer (some ⟨g1, 0, none⟩)], .func (.func 181) #[] #[.pointer (some ⟨g1, 0, none⟩)]]
def redL (g1 r g7 g5 g3 : Nat) (n : Int) (v : Value) (l : List (Int × Bool)) : List Res := [blk g1 91 (mc n v), mapR kaI vbB r l, blk g7 37 (clos g1 g5), blk g5 210 #[.map (some r)], blk g3 91 (mv 0 (.slice none 0 0)).cells]
theorem ent89 : enters Try.prog 89 = true := by kernel_rfl
theorem c89 (cols : Int) (R : Mat) (v1 : Value) (S : Nat → Prop) (w : World) (hl : R.length ≤ 1000000000) (hlr : ∀ r ∈ R, r.length ≤ 1000000000) (h1 : matOk S v1 R w) (hS : ∀ g, S g → g < w.heap.size) :
    Fun Try.prog 89 [mv cols v1] w fun o w' => ∃ B d v' S', o = .tuple #[.slice B (redT cols R).length d, mv (redC cols R) v', .int .i64 (redE cols R)] ∧
      Hp w (fun _ => False) w' [own 3 1 (.slice B (redT cols R).length d) (redT cols R).length (intsI (redT cols R))] [MatR S' v' (redR cols R)] ∧ ∀ g, S' g → w.heap.size ≤ g ∨ S g := by
  refine fun_of_W (N := 44) Try.func89 ent89 rfl rfl rfl (by simp) ?_
  have H := startM h1 hS
  have h1' : MatAt w v1 R := MatR.mono h1 hS
  obtain ⟨A, ca, rfl⟩ := h1.form
  refine H.box 91 (mv _ _) (cs := mc _ _) rfl ?_
  clear H
  intro g1 w1 H
  refine H.alloc 91 zero91 rfl ?_
  clear H
  intro g3 w2 H
  refine H.loadAll 1 rfl agg91 size91 ?_
  refine call_fn (c171 cols R _ _ hl hlr (h1'.same H.keeps)) ?_
  rintro _ w3 ⟨rfl, hk⟩
  replace H := H.same hk
  clear hk
  refine cond_split (fun hr => ?_) (fun hr => ?_)
  · have hno : rightB cols R = false := by simpa using hr
    have e1 : redT cols R = [] := by unfold redT; rw [hno]; rfl
    have e2 : redR cols R = [] := by unfold redR; rw [hno]; rfl
    have e3 : redC cols R = 0 := by unfold redC; rw [hno]; rfl
    have e4 : redE cols R = 1 := by unfold redE; rw [hno]; rfl
    rw [e1, e2, e3, e4]
    refine build91z ?_
    refine H.storeAll 0 rfl size91 rfl (fun v hv => mc_one v hv) ?_
    clear H
    intro w4 H
    refine H.loadAll 0 rfl agg91 size91 ?_
    refine ⟨rfl, ?_⟩
    have H2 := ((H.addRO (Keeps.refl _ _) (MatR (fun _ => False) (.slice none 0 0) []) (matNil _ _) fun g hg => hg.elim).weakenRO (M' := [MatR (fun _ => False) (.slice none 0 0) []]) (by simp)).ownNil 3 1
    exact ⟨none, 0, _, fun _ => False, rfl, H2.only, fun g hg => hg.elim⟩
  have hr' : rightB cols R = true := by simpa using hr
  have hright := rightB_iff.1 hr'
  obtain ⟨n, rfl⟩ : ∃ n : Nat, cols = n := ⟨cols.toNat, by have := hright.ge; omega⟩
  have hn4 : n ≤ 4000 := by have := hright.le; omega
  have e1 : redT n R = risen n (endS n (R, [])).2 := by unfold redT; rw [hr', Int.toNat_natCast]; rfl
  have e2 : redR n R = (endS n (R, [])).1 := by unfold redR; rw [hr', Int.toNat_natCast]; rfl
  have e3 : redC n R = n := by unfold redC; rw [hr']; rfl
  have e4 : redE n R = 0 := by unfold redE; rw [hr']; rfl
  rw [e1, e2, e3, e4]
  clear e1 e2 e3 e4
  refine H.makeMap kaI vbB ?_
  clear H
  intro r w4 H
  refine H.alloc 210 zero210 rfl ?_
  clear H
  intro g5 w5 H
  refine H.store 0 rfl size210 (by show 0 < 1; decide) rfl ?_
  clear H
  intro w6 H
  replace H := (H.front 1 rfl).front 3 rfl
  replace H : Hp w (fun _ => False) w6 [blk g1 91 (mc n (.slice A R.length ca)), mapR kaI vbB r [], blk g5 210 #[.map (some r)], blk g3 91 (mv 0 (.slice none 0 0)).cells] [MatR S (.slice A R.length ca) R] := H
  refine mkFunc ?_
  refine mkFunc ?_
  refine mkFunc ?_
  refine H.buildSl T211 (cs := clos g1 g5) (by decide) (by decide) (by kernel_rfl) ?_
  clear H
  intro g7 w7 H
  replace H := (H.front 2 rfl).front 2 rfl
  replace H : Hp w (fun _ => False) w7 (redL g1 r g7 g5 g3 n (.slice A R.length ca) []) [MatR S (.slice A R.length ca) R] := H
  have hrun : ∀ k, RightM n (runS n (R, []) k).1 ∧ (runS n (R, []) k).1.length ≤ 1000000000 ∧ ∀ x ∈ (runS n (R, []) k).1, x.length ≤ 1000000000 := fun k => by
    have h1 := (run_inv hright k).right
    have h2 : (runS n (R, []) k).1.length ≤ R.length := run_len (s := (R, [])) k
    exact ⟨h1, by omega, fun x hx => by have := row_len h1 hx; omega⟩
  refine cut_rule (γ := Unit) _ rfl (fun _ => []) (fun _ w' => Hp.cl H w') ⟨(), trivial, H⟩ ?_
  rintro ⟨⟩ u w8 H1
  replace H : Hp _ _ _ _ _ := H1
  clear H1
  refine cut_rule (γ := Value × (Nat → Prop) × List (Int × Bool)) _ rfl (fun _ => [])
    (fun (v, S', l) w' => (lOk l (endS n (R, [])).2 ∧ ∀ g, S' g → w.heap.size ≤ g ∨ S g) ∧ Hp w (fun _ => False) w' (redL g1 r g7 g5 g3 n v l) [MatR S' v (endS n (R, [])).1]) ?_ ?_
  · refine loop_rule (γ := Nat × Value × (Nat → Prop) × List (Int × Bool)) _ rfl (fun _ => [])
      (fun (k, v, S', l) w' => (lOk l (runS n (R, []) k).2 ∧ ∀ g, S' g → w.heap.size ≤ g ∨ S g) ∧ Hp w (fun _ => False) w' (redL g1 r g7 g5 g3 n v l) [MatR S' v (runS n (R, []) k).1])
      (fun (k, _) => massM (runS n (R, []) k).1) (0, .slice A R.length ca, S, []) trivial ⟨⟨fun c => rfl, fun g hg => .inr hg⟩, H⟩ ?_
    clear H
    rintro ⟨k, v, S', l⟩ u w8 ⟨⟨hlk, hS'⟩, H⟩
    replace H : Hp _ _ _ _ _ := H
    obtain ⟨hr1, hl1, hlr1⟩ := hrun k
    have hrb := rightB_iff.2 hr1
    refine cut_rule (γ := Value × (Nat → Prop)) _ rfl (fun _ => [])
      (fun (v, S') w' => (stepS n (runS n (R, []) k) = none ∧ ∀ g, S' g → w.heap.size ≤ g ∨ S g) ∧ Hp w (fun _ => False) w' (redL g1 r g7 g5 g3 n v l) [MatR S' v (runS n (R, []) k).1]) ?_ ?_
    · refine len_sl Try.underlying211 ?_
      refine loop_rule (γ := Nat × Value × (Nat → Prop)) _ rfl (fun (j, _) => [(22, .int .i64 (j : Int))])
        (fun (j, v, S') w' => (j ≤ 3 ∧ (0 < j → takeS (runS n (R, []) k).1 = none) ∧ (1 < j → rowsS (runS n (R, []) k).1 = none) ∧ (2 < j → colsS n (runS n (R, []) k).1 = none) ∧ ∀ g, S' g → w.heap.size ≤ g ∨ S g) ∧
          Hp w (fun _ => False) w' (redL g1 r g7 g5 g3 n v l) [MatR S' v (runS n (R, []) k).1])
        (fun (j, _) => 3 - j) (0, v, S') ⟨rfl, trivial⟩ ⟨⟨by decide, fun h => by omega, fun h => by omega, fun h => by omega, hS'⟩, H⟩ ?_
      clear H hS'
      rintro ⟨j, v, S'⟩ u w9 ⟨⟨hj, hj0, hj1, hj2, hS'⟩, H⟩
      replace H : Hp w (fun _ => False) w9 (redL g1 r g7 g5 g3 n v l) [MatR S' v (runS n (R, []) k).1] := H
      refine cond_dec (fun h7 => ?_) (fun h7 => ?_)
      · have HJ : Hp w (fun _ => False) w9 [stR g1 r n v l, blk g7 37 (clos g1 g5), blk g5 210 #[.map (some r)], blk g3 91 (mv 0 (.slice none 0 0)).cells] [MatR S' v (runS n (R, []) k).1] := Hp.join (Ls := stP g1 r n v l) H
        clear H
        have hj3 : j = 0 ∨ j = 1 ∨ j = 2 := by omega
        rcases hj3 with rfl | rfl | rfl
        · refine idxAddr_sl Try.underlying211 (s := 1) size37 0 rfl (by omega) (o' := 0) (by omega) ?_
          refine HJ.load 1 rfl agg37 rfl ?_
          refine call_fnC (c179 n _ v S' g1 g5 r l _ hl1 hlr1 (HJ.get 0 rfl) (HJ.ro 0 rfl) (HJ.rlt _ (.head _)) (fun g hg => HJ.rdis _ (.head _) _ (.head _) g hg) (HJ.get 2 rfl) (fun hg => (List.pairwise_cons.1 HJ.dis).1 _ (.tail _ (.head _)) g5 hg rfl)) ?_
          rintro _ w10 ⟨v', S2, rfl, st⟩
          have H2 := (HJ.turnAdd 0 rfl st.turn (MatR S2 v' _) st.mat (fun g hg => ⟨(st.foot g hg).1, (st.foot g hg).2.imp id fun h => ⟨_, .head _, h⟩⟩) st.dis).onlyRO
          have hS2 : ∀ g, S2 g → w.heap.size ≤ g ∨ S g := fun g hg => by
            rcases (st.foot g hg).2 with h | h
            · exact .inl (Nat.le_trans HJ.keeps.size h)
            · exact hS' g h
          replace H2 : Hp w (fun _ => False) w10 (redL g1 r g7 g5 g3 n v' _) _ := Hp.split (Ls := stP g1 r n v' _) H2
          have hto : takeO n (runS n (R, []) k).1 = takeS (runS n (R, []) k).1 := by unfold takeO; rw [if_pos hrb]
          rw [hto] at H2 ⊢
          cases ht : takeS (runS n (R, []) k).1 with
          | none =>
            rw [ht] at H2
            refine cond_no rfl ?_
            exact ⟨(1, v', S2), by show 3 - 1 < 3 - 0; decide, ⟨up (i := 0) (by omega), trivial⟩, ⟨by decide, fun _ => rfl, fun h => by omega, fun h => by omega, hS2⟩, H2⟩
          | some p =>
            obtain ⟨R', c⟩ := p
            rw [ht] at H2
            have hst : stepS n (runS n (R, []) k) = some (R', (runS n (R, []) k).2 ++ [c]) := by unfold stepS; rw [ht]
            have hm := step_mass hst
            have hsu := run_succ hst
            refine cond_yes rfl ?_
            refine ⟨(k + 1, v', S2, aset l c true), ?_, trivial, ⟨?_, hS2⟩, ?_⟩
            · show massM (runS n (R, []) (k + 1)).1 < massM (runS n (R, []) k).1
              rw [hsu]; exact hm
            · rw [hsu]; exact hlk.add c
            · rw [hsu]; exact H2
        · have ht := hj0 (by decide)
          refine idxAddr_sl Try.underlying211 (s := 1) size37 1 rfl (by omega) (o' := 1) (by omega) ?_
          refine HJ.load 1 rfl agg37 rfl ?_
          refine call_fnC (c180 n _ v S' g1 r l _ hl1 hlr1 (HJ.get 0 rfl) (HJ.ro 0 rfl) (HJ.rlt _ (.head _)) (fun g hg => HJ.rdis _ (.head _) _ (.head _) g hg)) ?_
          rintro _ w10 ⟨v', S2, rfl, st⟩
          have H2 := (HJ.turnAdd 0 rfl st.turn (MatR S2 v' _) st.mat (fun g hg => ⟨(st.foot g hg).1, (st.foot g hg).2.imp id fun h => ⟨_, .head _, h⟩⟩) st.dis).onlyRO
          have hS2 : ∀ g, S2 g → w.heap.size ≤ g ∨ S g := fun g hg => by
            rcases (st.foot g hg).2 with h | h
            · exact .inl (Nat.le_trans HJ.keeps.size h)
            · exact hS' g h
          replace H2 : Hp w (fun _ => False) w10 (redL g1 r g7 g5 g3 n v' _) _ := Hp.split (Ls := stP g1 r n v' _) H2
          have hto : rowsO n (runS n (R, []) k).1 = rowsS (runS n (R, []) k).1 := by unfold rowsO; rw [if_pos hrb]
          rw [hto] at H2 ⊢
          cases hro : rowsS (runS n (R, []) k).1 with
          | none =>
            rw [hro] at H2
            refine cond_no rfl ?_
            exact ⟨(2, v', S2), by show 3 - 2 < 3 - 1; decide, ⟨up (i := 1) (by omega), trivial⟩, ⟨by decide, fun _ => ht, fun _ => rfl, fun h => by omega, hS2⟩, H2⟩
          | some R' =>
            rw [hro] at H2
            have hst : stepS n (runS n (R, []) k) = some (R', (runS n (R, []) k).2) := by unfold stepS; rw [ht, hro]
            have hm := step_mass hst
            have hsu := run_succ hst
            refine cond_yes rfl ?_
            refine ⟨(k + 1, v', S2, l), ?_, trivial, ⟨?_, hS2⟩, ?_⟩
            · show massM (runS n (R, []) (k + 1)).1 < massM (runS n (R, []) k).1
              rw [hsu]; exact hm
            · rw [hsu]; exact hlk
            · rw [hsu]; exact H2
        · have ht := hj0 (by decide)
          have hro := hj1 (by decide)
          refine idxAddr_sl Try.underlying211 (s := 1) size37 2 rfl (by omega) (o' := 2) (by omega) ?_
          refine HJ.load 1 rfl agg37 rfl ?_
          refine call_fnC (c181 n _ v S' g1 r l _ hl1 hlr1 (HJ.get 0 rfl) (HJ.ro 0 rfl) (HJ.rlt _ (.head _)) (fun g hg => HJ.rdis _ (.head _) _ (.head _) g hg)) ?_
          rintro _ w10 ⟨v', S2, rfl, st⟩
          have H2 := (HJ.turnAdd 0 rfl st.turn (MatR S2 v' _) st.mat (fun g hg => ⟨(st.foot g hg).1, (st.foot g hg).2.imp id fun h => ⟨_, .head _, h⟩⟩) st.dis).onlyRO
          have hS2 : ∀ g, S2 g → w.heap.size ≤ g ∨ S g := fun g hg => by
            rcases (st.foot g hg).2 with h | h
            · exact .inl (Nat.le_trans HJ.keeps.size h)
            · exact hS' g h
          replace H2 : Hp w (fun _ => False) w10 (redL g1 r g7 g5 g3 n v' _) _ := Hp.split (Ls := stP g1 r n v' _) H2
          have hto : colsO n (runS n (R, []) k).1 = colsS n (runS n (R, []) k).1 := by unfold colsO; rw [if_pos hrb, Int.toNat_natCast]
          rw [hto] at H2 ⊢
          cases hco : colsS n (runS n (R, []) k).1 with
          | none =>
            rw [hco] at H2
            refine cond_no rfl ?_
            exact ⟨(3, v', S2), by show 3 - 3 < 3 - 2; decide, ⟨up (i := 2) (by omega), trivial⟩, ⟨by decide, fun _ => ht, fun _ => hro, fun _ => rfl, hS2⟩, H2⟩
          | some R' =>
            rw [hco] at H2
            have hst : stepS n (runS n (R, []) k) = some (R', (runS n (R, []) k).2) := by unfold stepS; rw [ht, hro, hco]; rfl
            have hm := step_mass hst
            have hsu := run_succ hst
            refine cond_yes rfl ?_
            refine ⟨(k + 1, v', S2, l), ?_, trivial, ⟨?_, hS2⟩, ?_⟩
            · show massM (runS n (R, []) (k + 1)).1 < massM (runS n (R, []) k).1
              rw [hsu]; exact hm
            · rw [hsu]; exact hlk
            · rw [hsu]; exact H2
      · have : j = 3 := by omega
        subst this
        refine ⟨(v, S'), trivial, ⟨?_, hS'⟩, H⟩
        unfold stepS
        rw [hj0 (by decide), hj1 (by decide), hj2 (by decide)]; rfl
    · clear H hS'
      rintro ⟨v, S'⟩ u w9 ⟨⟨hst, hS'⟩, H⟩
      replace H : Hp _ _ _ _ _ := H
      have he := end_eq hst
      rw [he] at hlk H
      exact ⟨(v, S', l), trivial, ⟨hlk, hS'⟩, H⟩
  clear H
  rintro ⟨v, S', l⟩ u w8 ⟨⟨hlk, hS'⟩, H⟩
  replace H : Hp w (fun _ => False) w8 (redL g1 r g7 g5 g3 n v l) [MatR S' v (endS n (R, [])).1] := H
  obtain ⟨A1, c1, rfl⟩ := (H.ro 0 rfl).form
  generalize endS n (R, []) = E at H hlk ⊢
  obtain ⟨RE, TE⟩ := E
  have H2 := H.ownNil 3 1
  clear H
  simp only at H2 hlk ⊢
  have hrl : ∀ c, (risen c TE).length ≤ c := fun c => risen_len_le c TE
  refine cut_rule (γ := Option Addr × Nat) _ rfl (fun (B, d) => [(6, .slice B (risen n TE).length d)])
    (fun (B, d) w' => Hp w (fun _ => False) w' (own 3 1 (.slice B (risen n TE).length d) (risen n TE).length (intsI (risen n TE)) :: redL g1 r g7 g5 g3 n (.slice A1 RE.length c1) l) [MatR S' (.slice A1 RE.length c1) RE]) ?_ ?_
  · refine fieldAddr_by (fa91_0 _) ?_
    refine H2.load 1 rfl agg3 rfl ?_
    refine loop_rule (γ := Nat × Option Addr × Nat) _ rfl (fun (c, B, d) => [(31, .int .i64 (c : Int)), (6, .slice B (risen c TE).length d)])
      (fun (c, B, d) w' => c ≤ n ∧ Hp w (fun _ => False) w' (own 3 1 (.slice B (risen c TE).length d) (risen c TE).length (intsI (risen c TE)) :: redL g1 r g7 g5 g3 n (.slice A1 RE.length c1) l) [MatR S' (.slice A1 RE.length c1) RE])
      (fun (c, _) => n - c) (0, none, 0) ⟨rfl, rfl, trivial⟩ ⟨Nat.zero_le _, H2⟩ ?_
    clear H2
    rintro ⟨c, B, d⟩ u w9 ⟨hc, H⟩
    replace H : Hp _ _ _ _ _ := H
    refine cond_dec (fun h7 => ?_) (fun h7 => ?_)
    · have hsn := risen_succ c TE
      have hcl := hrl c
      refine cut_rule (γ := Option Addr × Nat) _ rfl (fun (B, d) => [(6, .slice B (risen (c + 1) TE).length d)])
        (fun (B, d) w' => Hp w (fun _ => False) w' (own 3 1 (.slice B (risen (c + 1) TE).length d) (risen (c + 1) TE).length (intsI (risen (c + 1) TE)) :: redL g1 r g7 g5 g3 n (.slice A1 RE.length c1) l) [MatR S' (.slice A1 RE.length c1) RE]) ?_ ?_
      · refine cut_rule (γ := Unit) _ rfl (fun _ => [(10, .int .i64 (c : Int))]) (fun _ w' => Hp.cl H w') ⟨(), ⟨rfl, trivial⟩, H⟩ ?_
        rintro ⟨⟩ u w10 H1
        replace H : Hp _ _ _ _ _ := H1
        clear H1
        refine H.load 4 rfl agg210 rfl ?_
        refine H.lookup 2 rfl W210 (c : Int) ?_
        by_cases hm : (c : Int) ∈ TE
        · rw [if_pos hm] at hsn
          rw [hlk, if_pos hm]
          refine cond_yes rfl ?_
          refine H.buildOne T32 rfl ?_
          clear H
          intro g11 w11 H
          refine H.appendOne 0 T32 rfl rfl (by omega) (by omega) ?_
          clear H
          intro B2 d2 w12 H
          have e1 : (risen (c + 1) TE).length = (risen c TE).length + 1 := by rw [hsn]; simp
          have e2 : intsI (risen (c + 1) TE) = intsI (risen c TE) ++ [.int .i64 (c : Int)] := by rw [hsn, intsI_snoc]
          exact ⟨(B2, d2), ⟨by rw [e1]; rfl, trivial⟩, by rw [e1, e2]; exact H⟩
        · rw [if_neg hm, List.append_nil] at hsn
          rw [hlk, if_neg hm]
          refine cond_no rfl ?_
          exact ⟨(B, d), ⟨by rw [hsn]; rfl, trivial⟩, by rw [hsn]; exact H⟩
      · clear H
        rintro ⟨B2, d2⟩ u w10 H
        replace H : Hp _ _ _ _ _ := H
        exact ⟨(c + 1, B2, d2), by show n - (c + 1) < n - c; omega, ⟨up (by omega), rfl, trivial⟩, by show c + 1 ≤ n; omega, H⟩
    · have : c = n := by omega
      subst this
      exact ⟨(B, d), ⟨rfl, trivial⟩, H⟩
  clear H2
  rintro ⟨B, d⟩ u w9 H
  replace H : Hp w (fun _ => False) w9 [own 3 1 (.slice B (risen n TE).length d) (risen n TE).length (intsI (risen n TE)), blk g1 91 (mc n (.slice A1 RE.length c1)), mapR kaI vbB r l, blk g7 37 (clos g1 g5), blk g5 210 #[.map (some r)], blk g3 91 (mv 0 (.slice none 0 0)).cells] [MatR S' (.slice A1 RE.length c1) RE] := H
  refine H.drawC [own 3 1 (.slice B (risen n TE).length d) (risen n TE).length (intsI (risen n TE)), blk g1 91 (mc n (.slice A1 RE.length c1)), mapR kaI vbB r l, blk g7 37 (clos g1 g5), blk g5 210 #[.map (some r)]] (fun u H => (H.front 5 rfl).forget) fol (by kernel_rfl) ?_
  clear H
  intro w10 H
  refine quiet _ (fun w H => H.loadAll 1 rfl agg91 size91 ⟨rfl, rfl⟩) ?_
  refine H.storeAll 5 rfl size91 rfl (fun v hv => mc_one v hv) ?_
  clear H
  intro w11 H
  refine ⟨.inl (H.front 5 rfl).forget, ?_⟩
  refine H.loadAll 5 rfl agg91 size91 ?_
  refine ⟨rfl, ?_⟩
  exact ⟨B, d, _, S', rfl, H.only, hS'⟩
end Go.Proofs.Ytjebpngdinbckaa
end

section
/- Coverings: Reduce of the reference. -/
namespace Go.Proofs.Ytjebpngdinbckaa
open Go.Dk
attribute [local irreducible] IntKind.wrap

def tookL (n : Nat) (T : List Int) : List Bool := (List.range n).map fun k : Nat => decide ((k : Int) ∈ T)
theorem tookL_length (n : Nat) (T : List Int) : (tookL n T).length = n := by simp [tookL]
theorem tookL_nil (n : Nat) : List.replicate n (Value.bool false) = bls (tookL n []) := by
  unfold bls tookL
  rw [List.map_map]
  have : ((fun b => Value.bool b) ∘ fun k : Nat => decide ((k : Int) ∈ ([] : List Int))) = fun _ => Value.bool false := by funext k; simp
  rw [this, List.map_const', List.length_range]
theorem tookL_set {n : Nat} {T : List Int} {c : Int} (h0 : 0 ≤ c) (h1 : c < n) : bls (tookL n (T ++ [c])) = (bls (tookL n T)).set c.toNat (.bool true) := by
  rw [← bls_set]
  congr 1
  apply List.ext_getElem?
  intro i
  rw [List.getElem?_set, tookL_length]
  unfold tookL
  rw [List.getElem?_map, List.getElem?_map]
  by_cases hi : c.toNat = i
  · subst hi
    rw [if_pos rfl, if_pos (by omega), List.getElem?_range (by omega)]
    simp; right; omega
  · rw [if_neg hi]
    by_cases hn : i < n
    · rw [List.getElem?_range hn]
      have : ¬ (i : Int) = c := by omega
      simp [this]
    · rw [List.getElem?_eq_none (by simp; omega)]; rfl
theorem tookL_get {n : Nat} {T : List Int} {c : Nat} (h : c < n) : (bls (tookL n T))[c]? = some (.bool (decide ((c : Int) ∈ T))) := by
  unfold bls tookL
  rw [List.map_map, List.getElem?_map, List.getElem?_range h]; rfl
theorem ent90 : enters Try.prog 90 = true := by kernel_rfl
theorem c90 (n : Nat) (R : Mat) (v1 : Value) (S : Nat → Prop) (w : World) (hl : R.length ≤ 1000000000) (hright : RightM n R) (h1 : matOk S v1 R w) (hS : ∀ g, S g → g < w.heap.size) :
    Fun Try.prog 90 [v1, .int .i64 (n : Int)] w fun o w' => ∃ B d v' S', o = .tuple #[.slice B (risen n (endS n (R, [])).2).length d, v'] ∧
      Hp w (fun _ => False) w' [own 3 1 (.slice B (risen n (endS n (R, [])).2).length d) (risen n (endS n (R, [])).2).length (intsI (risen n (endS n (R, [])).2))] [MatR S' v' (endS n (R, [])).1] ∧ ∀ g, S' g → w.heap.size ≤ g ∨ S g := by
  refine fun_of_W (N := 56) Try.func90 ent90 rfl rfl rfl (by simp) ?_
  have H := startM h1 hS
  obtain ⟨A, ca, rfl⟩ := h1.form
  have hn4 : n ≤ 4000 := by have := hright.le; omega
  have hrun : ∀ k, RightM n (runS n (R, []) k).1 ∧ (runS n (R, []) k).1.length ≤ 1000000000 ∧ ∀ x ∈ (runS n (R, []) k).1, x.length ≤ 1000000000 := fun k => by
    have h1 := (run_inv hright k).right
    have h2 : (runS n (R, []) k).1.length ≤ R.length := run_len (s := (R, [])) k
    exact ⟨h1, by omega, fun x hx => by have := row_len h1 hx; omega⟩
  refine cut_rule (γ := Unit) _ rfl (fun _ => []) (fun _ w' => Hp.cl H w') ⟨(), trivial, H⟩ ?_
  rintro ⟨⟩ u w0 H1
  replace H : Hp _ _ _ _ _ := H1
  clear H1
  refine cut_rule (γ := Nat) _ rfl (fun g => [(6, .slice (some ⟨g, 0, none⟩) n n)]) (fun g w' => Hp w (fun _ => False) w' [own 4 1 (.slice (some ⟨g, 0, none⟩) n n) n (bls (tookL n []))] [MatR S (.slice A R.length ca) R]) ?_ ?_
  · refine H.make T29 n rfl rfl (by omega) (by omega) ?_
    clear H
    intro g w1 H
    rw [madeBool, tookL_nil] at H
    exact ⟨g, ⟨rfl, trivial⟩, H⟩
  clear H
  rintro g u w1 H
  replace H : Hp _ _ _ _ _ := H
  refine cut_rule (γ := Option Addr × Nat × (Nat → Prop)) _ rfl (fun (A, ca, _) => [(0, .slice A (endS n (R, [])).1.length ca)])
    (fun (A, ca, S') w' => (∀ g, S' g → w.heap.size ≤ g ∨ S g) ∧ Hp w (fun _ => False) w' [own 4 1 (.slice (some ⟨g, 0, none⟩) n n) n (bls (tookL n (endS n (R, [])).2))] [MatR S' (.slice A (endS n (R, [])).1.length ca) (endS n (R, [])).1]) ?_ ?_
  · refine loop_rule (γ := Nat × Option Addr × Nat × (Nat → Prop)) _ rfl (fun (k, A, ca, _) => [(0, .slice A (runS n (R, []) k).1.length ca)])
      (fun (k, A, ca, S') w' => (∀ g, S' g → w.heap.size ≤ g ∨ S g) ∧ Hp w (fun _ => False) w' [own 4 1 (.slice (some ⟨g, 0, none⟩) n n) n (bls (tookL n (runS n (R, []) k).2))] [MatR S' (.slice A (runS n (R, []) k).1.length ca) (runS n (R, []) k).1])
      (fun (k, _) => massM (runS n (R, []) k).1) (0, A, ca, S) ⟨rfl, trivial⟩ ⟨fun g hg => .inr hg, H⟩ ?_
    clear H
    rintro ⟨k, A, ca, S'⟩ u w2 ⟨hS', H⟩
    replace H : Hp w (fun _ => False) w2 [own 4 1 (.slice (some ⟨g, 0, none⟩) n n) n (bls (tookL n (runS n (R, []) k).2))] [MatR S' (.slice A (runS n (R, []) k).1.length ca) (runS n (R, []) k).1] := H
    obtain ⟨hr1, hl1, hlr1⟩ := hrun k
    have hnd : ∀ x ∈ (runS n (R, []) k).1, x.Nodup := fun x hx => (hr1.rise x hx).nodup
    have hSS : ∀ S2 : Nat → Prop, (∀ g, S2 g → w.heap.size ≤ g ∨ S' g) → ∀ g, S2 g → w.heap.size ≤ g ∨ S g := fun S2 h g hg => (h g hg).elim .inl (hS' g)
    refine call_fn (c86 _ _ S' _ hl1 hlr1 (H.ro 0 rfl) (H.rlt _ (.head _))) ?_
    rintro _ w3 ⟨v', rfl, hn⟩
    obtain ⟨S2, H2, hS2⟩ := H.addM (.head _) hn
    have H0 := H.same hn.keeps
    clear H
    obtain ⟨A2, c2, rfl⟩ := (H2.ro 0 rfl).form
    cases ht : takeS (runS n (R, []) k).1 with
    | some p =>
      obtain ⟨R', c⟩ := p
      rw [ht] at H2
      have hst : stepS n (runS n (R, []) k) = some (R', (runS n (R, []) k).2 ++ [c]) := by unfold stepS; rw [ht]
      have hm := step_mass hst
      have hsu := run_succ hst
      have hcr := hr1.rng _ (take_some ht).1 c (.head _)
      refine cond_yes rfl ?_
      refine idxAddr_sl Try.underlying29 (s := 1) size4 c.toNat (by show c = _; omega) (by omega) (o' := c.toNat) (by omega) ?_
      refine H2.storeOwn 0 rfl size4 (by rw [bls, List.length_map, tookL_length]; omega) rfl ?_
      clear H2
      intro w4 H2
      refine ⟨(k + 1, A2, c2, S2), ?_, ⟨by rw [hsu]; rfl, trivial⟩, hSS _ hS2, ?_⟩
      · show massM (runS n (R, []) (k + 1)).1 < massM (runS n (R, []) k).1
        rw [hsu]; exact hm
      · rw [hsu, tookL_set hcr.1 hcr.2]; exact H2.onlyRO
    | none =>
      clear H2
      refine cond_no rfl ?_
      refine call_fn (c87 _ _ S' _ hl1 hlr1 hnd (H0.ro 0 rfl) (H0.rlt _ (.head _))) ?_
      rintro _ w4 ⟨v', rfl, hn4⟩
      obtain ⟨S3, H2, hS3⟩ := H0.addM (.head _) hn4
      have H1 := H0.same hn4.keeps
      clear H0
      obtain ⟨A3, c3, rfl⟩ := (H2.ro 0 rfl).form
      cases hro : rowsS (runS n (R, []) k).1 with
      | some R' =>
        rw [hro] at H2
        have hst : stepS n (runS n (R, []) k) = some (R', (runS n (R, []) k).2) := by unfold stepS; rw [ht, hro]
        have hm := step_mass hst
        have hsu := run_succ hst
        refine cond_yes rfl ?_
        refine ⟨(k + 1, A3, c3, S3), ?_, ⟨by rw [hsu]; rfl, trivial⟩, hSS _ hS3, ?_⟩
        · show massM (runS n (R, []) (k + 1)).1 < massM (runS n (R, []) k).1
          rw [hsu]; exact hm
        · rw [hsu]; exact H2.onlyRO
      | none =>
        clear H2
        refine cond_no rfl ?_
        refine call_fn (c88 _ n _ S' _ hl1 (by omega) hlr1 (H1.ro 0 rfl) (H1.rlt _ (.head _))) ?_
        rintro _ w5 ⟨v', rfl, hn5⟩
        obtain ⟨S4, H2, hS4⟩ := H1.addM (.head _) hn5
        have H0 := H1.same hn5.keeps
        clear H1
        obtain ⟨A4, c4, rfl⟩ := (H2.ro 0 rfl).form
        cases hco : colsS n (runS n (R, []) k).1 with
        | some R' =>
          rw [hco] at H2
          have hst : stepS n (runS n (R, []) k) = some (R', (runS n (R, []) k).2) := by unfold stepS; rw [ht, hro, hco]; rfl
          have hm := step_mass hst
          have hsu := run_succ hst
          refine cond_no rfl ?_
          refine ⟨(k + 1, A4, c4, S4), ?_, ⟨by rw [hsu]; rfl, trivial⟩, hSS _ hS4, ?_⟩
          · show massM (runS n (R, []) (k + 1)).1 < massM (runS n (R, []) k).1
            rw [hsu]; exact hm
          · rw [hsu]; exact H2.onlyRO
        | none =>
          have hst : stepS n (runS n (R, []) k) = none := by unfold stepS; rw [ht, hro, hco]; rfl
          have he := end_eq hst
          refine cond_yes rfl ?_
          exact ⟨(A, ca, S'), ⟨by rw [← he]; rfl, trivial⟩, hS', by rw [← he]; exact H0⟩
  clear H
  rintro ⟨A, ca, S'⟩ u w2 ⟨hS', H⟩
  replace H : Hp _ _ _ _ _ := H
  generalize endS n (R, []) = E at H ⊢
  obtain ⟨RE, TE⟩ := E
  simp only at H ⊢
  have hrl : ∀ c, (risen c TE).length ≤ c := fun c => risen_len_le c TE
  refine cut_rule (γ := Unit) _ rfl (fun _ => [(10, .slice none 0 0)]) (fun _ w' => Hp.cl H w') ⟨(), ⟨rfl, trivial⟩, H⟩ ?_
  rintro ⟨⟩ u w3 H1
  replace H : Hp _ _ _ _ _ := H1
  clear H1
  have H2 := H.ownNil 3 1
  clear H
  refine cut_rule (γ := Option Addr × Nat) _ rfl (fun (B, d) => [(10, .slice B (risen n TE).length d)])
    (fun (B, d) w' => Hp w (fun _ => False) w' [own 3 1 (.slice B (risen n TE).length d) (risen n TE).length (intsI (risen n TE)), own 4 1 (.slice (some ⟨g, 0, none⟩) n n) n (bls (tookL n TE))] [MatR S' (.slice A RE.length ca) RE]) ?_ ?_
  · refine loop_rule (γ := Nat × Option Addr × Nat) _ rfl (fun (c, B, d) => [(11, .int .i64 (c : Int)), (10, .slice B (risen c TE).length d)])
      (fun (c, B, d) w' => c ≤ n ∧ Hp w (fun _ => False) w' [own 3 1 (.slice B (risen c TE).length d) (risen c TE).length (intsI (risen c TE)), own 4 1 (.slice (some ⟨g, 0, none⟩) n n) n (bls (tookL n TE))] [MatR S' (.slice A RE.length ca) RE])
      (fun (c, _) => n - c) (0, none, 0) ⟨rfl, rfl, trivial⟩ ⟨Nat.zero_le _, H2⟩ ?_
    clear H2
    rintro ⟨c, B, d⟩ u w4 ⟨hc, H⟩
    replace H : Hp _ _ _ _ _ := H
    refine cond_dec (fun h7 => ?_) (fun h7 => ?_)
    · have hsn := risen_succ c TE
      have hcl := hrl c
      refine idxAddr_sl Try.underlying29 (s := 1) size4 c rfl (by omega) (o' := c) (by omega) ?_
      refine H.loadOwn 1 rfl agg4 (tookL_get (by omega)) ?_
      refine cond_dec (fun hm => ?_) (fun hm => ?_)
      · rw [if_pos hm] at hsn
        refine H.buildOne T32 rfl ?_
        clear H
        intro g11 w11 H
        refine H.appendOne 0 T32 rfl rfl (by omega) (by omega) ?_
        clear H
        intro B2 d2 w12 H
        have e1 : (risen (c + 1) TE).length = (risen c TE).length + 1 := by rw [hsn]; simp
        have e2 : intsI (risen (c + 1) TE) = intsI (risen c TE) ++ [.int .i64 (c : Int)] := by rw [hsn, intsI_snoc]
        exact ⟨(c + 1, B2, d2), by show n - (c + 1) < n - c; omega, ⟨up (by omega), by rw [e1]; rfl, trivial⟩, by show c + 1 ≤ n; omega, by rw [e1, e2]; exact H⟩
      · rw [if_neg hm, List.append_nil] at hsn
        exact ⟨(c + 1, B, d), by show n - (c + 1) < n - c; omega, ⟨up (by omega), by rw [hsn]; rfl, trivial⟩, by show c + 1 ≤ n; omega, by rw [hsn]; exact H⟩
    · have : c = n := by omega
      subst this
      exact ⟨(B, d), ⟨rfl, trivial⟩, H⟩
  clear H2
  rintro ⟨B, d⟩ u w4 H
  replace H : Hp _ _ _ _ _ := H
  exact ⟨B, d, _, S', rfl, H.only, hS'⟩
end Go.Proofs.Ytjebpngdinbckaa
end

section
/- Coverings: the examples. -/
namespace Go.Proofs.Ytjebpngdinbckaa
open Go.Dk
attribute [local irreducible] IntKind.wrap

theorem rowLit {S : Nat → Prop} {g : Nat} {cs : Array Value} {w : World} {ks : List Int} (h : (blk g 3 cs).ok w) (hcs : cs.toList = intsI ks) (hS : S g) : rowV S w (.slice (some ⟨g, 0, none⟩) ks.length ks.length) ks := by
  refine ⟨some ⟨g, 0, none⟩, ks.length, rfl, by simp [intsI], _, _, rfl, Nat.le_refl _, .inr ⟨g, 0, rfl, hS, fun j hj => ?_⟩⟩
  rw [Nat.zero_add, blk_cell h, ← hcs]; simp
theorem matLit {S : Nat → Prop} {g : Nat} {cs : Array Value} {w : World} {hs : List Value} {Q : Mat} (h : (blk g 32 cs).ok w) (hcs : cs.toList = hs) (hq : hsOk S w hs Q) (hS : S g) : matOk S (.slice (some ⟨g, 0, none⟩) Q.length Q.length) Q w := by
  refine ⟨some ⟨g, 0, none⟩, Q.length, hs, rfl, ⟨by rw [hq.1]; simp, _, _, rfl, Nat.le_refl _, .inr ⟨g, 0, rfl, hS, fun j hj => ?_⟩⟩, hq.2⟩
  rw [Nat.zero_add, blk_cell h, ← hcs]; simp
def exR : Mat := [[0], [0, 1], [1, 2]]
def exQ : Mat := [[0, 1], [2]]
theorem exR_T : redT 3 exR = [0, 1] := by decide
theorem exR_R : redR 3 exR = [] := by decide
theorem exR_C : redC 3 exR = 3 := by decide
theorem exR_E : redE 3 exR = 0 := by decide
theorem exQ_T : takeO 3 exQ = some ([[0, 1]], 2) := by decide
theorem build91b {a : Int} {A : Option Addr} {l c : Nat} {w : World} {kk : Value → World → Prop} (h : kk (mv a (.slice A l c)) w) : buildK Try.prog 91 [(0, .int .i64 a), (1, .slice A l c)] w kk := build_by (fun w => by kernel_rfl) h
theorem ent80 : enters Try.prog 80 = true := by kernel_rfl
theorem c80 (w : World) : Fun Try.prog 80 [] w fun v w' => v = .bool true ∧ Same w w' := by
  refine fun_of_W (N := 46) Try.func80 ent80 rfl rfl rfl (by simp) ?_
  have H := Hp.start0 w
  refine cut_rule (γ := Unit) _ rfl (fun _ => []) (fun _ w' => Hp.cl H w') ⟨(), trivial, H⟩ ?_
  rintro ⟨⟩ u w0 H1
  replace H : Hp _ _ _ _ _ := H1
  clear H1
  refine cut_rule (γ := Option Addr × Nat × Nat × Value × (Nat → Prop)) _ rfl (fun (B, d, g2, _) => [(1, .slice B 2 d), (2, .pointer (some ⟨g2, 0, none⟩)), (3, .int .i64 0)])
    (fun (B, d, g2, v, S') w' => Hp w (fun _ => False) w' [blk g2 91 (mc 3 v), own 3 1 (.slice B 2 d) 2 (intsI [0, 1])] [MatR S' v []]) ?_ ?_
  · refine H.buildSl T32 (cs := #[.int .i64 0]) (by decide) (by decide) (by kernel_rfl) ?_
    clear H
    intro g8 w1 H
    refine H.buildSl T32 (cs := #[.int .i64 0, .int .i64 1]) (by decide) (by decide) (by kernel_rfl) ?_
    clear H
    intro g9 w2 H
    refine H.buildSl T32 (cs := #[.int .i64 1, .int .i64 2]) (by decide) (by decide) (by kernel_rfl) ?_
    clear H
    intro g10 w3 H
    refine H.buildSl T89 (cs := #[.slice (some ⟨g8, 0, none⟩) 1 1, .slice (some ⟨g9, 0, none⟩) 2 2, .slice (some ⟨g10, 0, none⟩) 2 2]) (by decide) (by decide) (by kernel_rfl) ?_
    clear H
    intro g11 w4 H
    refine build91b ?_
    have hm : matOk (fun g => g = g8 ∨ g = g9 ∨ g = g10 ∨ g = g11) (.slice (some ⟨g11, 0, none⟩) 3 3) exR w4 := by
      refine matLit (Q := exR) (H.get 0 rfl) rfl ?_ (.inr (.inr (.inr rfl)))
      have h1 := (hsOk.nil (fun g => g = g8 ∨ g = g9 ∨ g = g10 ∨ g = g11) w4).snoc (rowLit (ks := [0]) (H.get 3 rfl) rfl (.inl rfl))
      have h2 := h1.snoc (rowLit (ks := [0, 1]) (H.get 2 rfl) rfl (.inr (.inl rfl)))
      exact h2.snoc (rowLit (ks := [1, 2]) (H.get 1 rfl) rfl (.inr (.inr (.inl rfl))))
    have H2 := H.freeze.freeze.freeze.freeze
    refine call_fn (c89 3 exR _ _ _ (by decide) (by decide) hm (fun g hg => ?_)) ?_
    · rcases hg with rfl | rfl | rfl | rfl
      · exact blk_lt (H.get 3 rfl)
      · exact blk_lt (H.get 2 rfl)
      · exact blk_lt (H.get 1 rfl)
      · exact blk_lt (H.get 0 rfl)
    rintro _ w5 ⟨B, d, v', S', rfl, HR, hS'⟩
    rw [exR_T, exR_R] at HR
    rw [exR_T, exR_C, exR_E]
    have H3 := H2.merge HR fun r hr g hg => by
      rw [List.mem_singleton] at hr
      subst hr
      rcases hS' g hg with h | h
      · exact .inl h
      · right
        rcases h with rfl | rfl | rfl | rfl
        · exact ⟨_, .head _, rfl⟩
        · exact ⟨_, .tail _ (.head _), rfl⟩
        · exact ⟨_, .tail _ (.tail _ (.head _)), rfl⟩
        · exact ⟨_, .tail _ (.tail _ (.tail _ (.head _))), rfl⟩
    clear H H2 HR
    obtain ⟨A1, c1, rfl⟩ := (H3.ro 0 rfl).form
    refine H3.alloc 91 zero91 rfl ?_
    clear H3
    intro g2 w6 H
    refine H.storeAll 0 rfl size91 rfl (fun v hv => mc_one v hv) ?_
    clear H
    intro w7 H
    exact ⟨(B, d, g2, _, S'), ⟨rfl, rfl, rfl, trivial⟩, H.onlyRO⟩
  clear H
  rintro ⟨B, d, g2, v, S'⟩ u w1 H
  replace H : Hp w (fun _ => False) w1 [blk g2 91 (mc 3 v), own 3 1 (.slice B 2 d) 2 (intsI [0, 1])] [MatR S' v []] := H
  obtain ⟨A1, c1, rfl⟩ := (H.ro 0 rfl).form
  refine cut_rule (γ := Unit) _ rfl (fun _ => [(5, .int .i64 2), (6, .bool true)]) (fun _ w' => Hp.cl H w') ?_ ?_
  · refine H.buildSl T32 (cs := #[.int .i64 0, .int .i64 1]) (by decide) (by decide) (by kernel_rfl) ?_
    intro g8 w2 H2
    refine H2.buildSl T32 (cs := #[.int .i64 2]) (by decide) (by decide) (by kernel_rfl) ?_
    clear H2
    intro g9 w3 H2
    refine H2.buildSl T89 (cs := #[.slice (some ⟨g8, 0, none⟩) 2 2, .slice (some ⟨g9, 0, none⟩) 1 1]) (by decide) (by decide) (by kernel_rfl) ?_
    clear H2
    intro g11 w4 H2
    refine build91b ?_
    have hm : matOk (fun g => g = g8 ∨ g = g9 ∨ g = g11) (.slice (some ⟨g11, 0, none⟩) 2 2) exQ w4 := by
      refine matLit (Q := exQ) (H2.get 0 rfl) rfl ?_ (.inr (.inr rfl))
      have h1 := (hsOk.nil (fun g => g = g8 ∨ g = g9 ∨ g = g11) w4).snoc (rowLit (ks := [0, 1]) (H2.get 2 rfl) rfl (.inl rfl))
      exact h1.snoc (rowLit (ks := [2]) (H2.get 1 rfl) rfl (.inr (.inl rfl)))
    refine call_fn (c81 3 exQ _ _ _ (by decide) (by decide) hm (fun g hg => ?_)) ?_
    · rcases hg with rfl | rfl | rfl
      · exact blk_lt (H2.get 2 rfl)
      · exact blk_lt (H2.get 1 rfl)
      · exact blk_lt (H2.get 0 rfl)
    rintro _ w5 ⟨v', rfl, hn⟩
    have H3 := H2.same hn.keeps
    obtain ⟨S2, hmat, _⟩ := hn.mat
    obtain ⟨A2, c2, rfl⟩ := hmat.form
    refine H3.alloc 91 zero91 rfl ?_
    clear H2 H3
    intro g4 w6 H2
    refine H2.storeAll 0 rfl size91 rfl (fun v hv => mc_one v hv) ?_
    clear H2
    intro w7 H2
    exact ⟨(), ⟨rfl, rfl, trivial⟩, H2.forget.forget.forget.forget⟩
  · rintro ⟨⟩ u w2 H1
    replace H : Hp _ _ _ _ _ := H1
    clear H1
    refine H.buildSl T32 (cs := #[.int .i64 0, .int .i64 1]) (by decide) (by decide) (by kernel_rfl) ?_
    clear H
    intro g27 w3 H
    have hrow : rowV (fun g => g < w3.heap.size) w3 (.slice (some ⟨g27, 0, none⟩) 2 2) [0, 1] := rowLit (ks := [0, 1]) (H.get 0 rfl) rfl (blk_lt (H.get 0 rfl))
    obtain ⟨B9, c9, hv9, hs9⟩ := hrow
    injection hv9 with e1 e2 e3
    subst e1; subst e3
    refine call_fn (c91 [0, 1] [0, 1] B _ d _ _ (by decide) (by decide) (own_Sl (H.get 2 rfl)) hs9) ?_
    rintro _ w4 ⟨rfl, hk⟩
    replace H := H.same hk
    refine cond_yes rfl ?_
    refine fieldAddr_by (fa91_1 _) ?_
    refine cond_yes rfl ?_
    refine H.load 1 rfl agg89 rfl ?_
    refine cond_yes rfl ?_
    refine len_sl Try.underlying89 ?_
    iterate 10 refine cond_yes rfl ?_
    exact ⟨rfl, H.keeps⟩
end Go.Proofs.Ytjebpngdinbckaa
end

section
/- ReduceSteps. -/
namespace Go.Proofs.Ytjebpngdinbckaa
open Go.Dk
attribute [local irreducible] IntKind.wrap

theorem great_no {cols : Int} {R : Mat} (h : greatB cols R = false) : R.length ≤ 30 ∧ (∀ r ∈ R, r.length ≤ 100) ∧ (cols ≤ 30 ∨ 4000 < cols) := by
  unfold greatB greatM at h
  simp only [Bool.or_eq_false_iff, decide_eq_false_iff_not, Bool.and_eq_false_iff] at h
  obtain ⟨⟨⟨h1, h2⟩, h3⟩, h4⟩ := h
  refine ⟨by omega, fun r hr => ?_, by omega⟩
  have : ¬ decide (100 < r.length) = true := fun hh => by rw [List.any_eq_true.2 ⟨r, hr, hh⟩] at h1; cases h1
  simpa using this
/-- The rows of a part that is read. -/
theorem _root_.Go.Dk.Hp.matAt {w0 w : World} {F : Nat → Prop} {L M : List Res} (H : Hp w0 F w L M) (n : Nat) {S : Nat → Prop} {v : Value} {R : Mat} (hn : M[n]? = some (MatR S v R)) : MatAt w v R :=
  MatR.mono (H.ro n hn) fun g hg => H.rlt _ (List.mem_of_getElem? hn) g hg
def Small (R : Mat) : Prop := R.length ≤ 1000000000 ∧ ∀ r ∈ R, r.length ≤ 1000000000
theorem small_take {R : Mat} (h : Small R) : Small (((takeS R).map (·.1)).getD R) := by
  cases ht : takeS R with
  | none => exact h
  | some p =>
    obtain ⟨R', k⟩ := p
    obtain ⟨_, hR⟩ := take_some ht
    show Small R'
    rw [hR]
    exact ⟨Nat.le_trans (List.length_filter_le _ _) h.1, fun r hr => h.2 r (List.mem_filter.1 hr).1⟩
theorem small_rows {R : Mat} (h : Small R) : Small ((rowsS R).getD R) := by
  cases ht : rowsS R with
  | none => exact h
  | some R' =>
    obtain ⟨i, j, _, _, _, _, hR⟩ := rows_some ht
    show Small R'
    rw [hR]
    exact ⟨Nat.le_trans (List.length_eraseIdx_le _ _) h.1, fun r hr => h.2 r (List.mem_of_mem_eraseIdx hr)⟩
theorem small_cols {n : Nat} {R : Mat} (h : Small R) : Small ((colsS n R).getD R) := by
  cases ht : colsS n R with
  | none => exact h
  | some R' =>
    obtain ⟨c, d, _, _, _, _, _, hR⟩ := cols_some ht
    show Small R'
    rw [hR]
    refine ⟨by unfold dropC; rw [List.length_map]; exact h.1, fun r hr => ?_⟩
    obtain ⟨q, hq, rfl⟩ := List.mem_map.1 hr
    exact Nat.le_trans (List.length_filter_le _ _) (h.2 q hq)
theorem law13 (cols : Int) (R : Mat) (v1 : Value) (w : World) (hm : MatArg w v1 R) : Fun Try.prog 13 [mv cols v1] w fun v w' => v = .bool true ∧ Same w w' := by
  refine fun_of_W (N := 161) Try.func13 (by kernel_rfl) rfl rfl rfl (by simp) ?_
  have H := startM hm.mat (fun g hg => hg)
  obtain ⟨A, ca, hv1⟩ := hm.mat.form
  subst hv1
  refine H.box 91 (mv _ _) (cs := mc _ _) rfl ?_
  clear H
  intro g1 w1 H
  refine H.loadAll 0 rfl agg91 size91 ?_
  refine call_fn (c79 cols R _ _ hm.len (hm.mat.same H.keeps)) ?_
  rintro _ w2 ⟨rfl, hk⟩
  replace H := H.same hk
  clear hk
  refine cond_split (fun hg => ?_) (fun hg => ?_)
  · refine call_fn (c80 _) ?_
    rintro _ w3 ⟨rfl, hk⟩
    exact ⟨rfl, (H.same hk).keeps⟩
  obtain ⟨hl30, hr100, _⟩ := great_no hg
  have hl : R.length ≤ 1000000000 := by omega
  have hlr : ∀ r ∈ R, r.length ≤ 1000000000 := fun r hr => by have := hr100 r hr; omega
  cases hr : rightB cols R with
  | false =>
    have e1 : takeO cols R = none := by unfold takeO; rw [hr]; rfl
    have e2 : rowsO cols R = none := by unfold rowsO; rw [hr]; rfl
    have e3 : colsO cols R = none := by unfold colsO; rw [hr]; rfl
    refine cut_rule (γ := Nat × Value × (Nat → Prop)) _ rfl (fun (g3, _) => [(3, .pointer (some ⟨g3, 0, none⟩)), (4, .int .i64 0), (5, .bool false)])
      (fun (g3, v3, S3) w' => Hp w (fun _ => False) w' [blk g3 91 (mc cols v3), blk g1 91 (mc cols (.slice A R.length ca))] [MatR S3 v3 R, MatR (fun g => g < w.heap.size) (.slice A R.length ca) R]) ?_ ?_
    · refine H.loadAll 0 rfl agg91 size91 ?_
      refine call_fn (c81 cols R _ _ _ hl hlr (H.ro 0 rfl) (H.rlt _ (.head _))) ?_
      rintro _ w3 ⟨v3, rfl, hn⟩
      rw [e1] at hn ⊢
      obtain ⟨S3, H2, _⟩ := H.addM (.head _) hn
      obtain ⟨A3, c3, rfl⟩ := (H2.ro 0 rfl).form
      refine H2.alloc 91 zero91 rfl ?_
      clear H2
      intro g3 w4 H2
      refine H2.storeAll 0 rfl size91 rfl (fun v hv => mc_one v hv) ?_
      clear H2
      intro w5 H2
      exact ⟨(g3, _, S3), ⟨rfl, rfl, rfl, trivial⟩, H2⟩
    clear H
    rintro ⟨g3, v3, S3⟩ u w3 H
    replace H : Hp w (fun _ => False) w3 [blk g3 91 (mc cols v3), blk g1 91 (mc cols (.slice A R.length ca))] [MatR S3 v3 R, MatR (fun g => g < w.heap.size) (.slice A R.length ca) R] := H
    refine cut_rule (γ := Nat × Value × (Nat → Prop)) _ rfl (fun (g6, _) => [(6, .pointer (some ⟨g6, 0, none⟩)), (7, .bool false)])
      (fun (g6, v6, S6) w' => Hp w (fun _ => False) w' [blk g6 91 (mc cols v6), blk g3 91 (mc cols v3), blk g1 91 (mc cols (.slice A R.length ca))] [MatR S6 v6 R, MatR S3 v3 R, MatR (fun g => g < w.heap.size) (.slice A R.length ca) R]) ?_ ?_
    · refine H.loadAll 1 rfl agg91 size91 ?_
      refine call_fn (c82 cols R _ _ _ hl hlr (H.ro 1 rfl) (H.rlt _ (.tail _ (.head _)))) ?_
      rintro _ w4 ⟨v6, rfl, hn⟩
      rw [e2] at hn ⊢
      obtain ⟨S6, H2, _⟩ := H.addM (.tail _ (.head _)) hn
      obtain ⟨A6, c6, rfl⟩ := (H2.ro 0 rfl).form
      refine H2.alloc 91 zero91 rfl ?_
      clear H2
      intro g6 w5 H2
      refine H2.storeAll 0 rfl size91 rfl (fun v hv => mc_one v hv) ?_
      clear H2
      intro w6 H2
      exact ⟨(g6, _, S6), ⟨rfl, rfl, trivial⟩, H2⟩
    clear H
    rintro ⟨g6, v6, S6⟩ u w4 H
    replace H : Hp w (fun _ => False) w4 [blk g6 91 (mc cols v6), blk g3 91 (mc cols v3), blk g1 91 (mc cols (.slice A R.length ca))] [MatR S6 v6 R, MatR S3 v3 R, MatR (fun g => g < w.heap.size) (.slice A R.length ca) R] := H
    refine cut_rule (γ := Nat × Value × (Nat → Prop)) _ rfl (fun (g8, _) => [(8, .pointer (some ⟨g8, 0, none⟩)), (9, .bool false)])
      (fun (g8, v8, S8) w' => Hp w (fun _ => False) w' [blk g8 91 (mc cols v8), blk g6 91 (mc cols v6), blk g3 91 (mc cols v3), blk g1 91 (mc cols (.slice A R.length ca))] [MatR S8 v8 R, MatR S6 v6 R, MatR S3 v3 R, MatR (fun g => g < w.heap.size) (.slice A R.length ca) R]) ?_ ?_
    · refine H.loadAll 2 rfl agg91 size91 ?_
      refine call_fn (c83 cols R _ _ _ hl hlr (H.ro 2 rfl) (H.rlt _ (.tail _ (.tail _ (.head _))))) ?_
      rintro _ w5 ⟨v8, rfl, hn⟩
      rw [e3] at hn ⊢
      obtain ⟨S8, H2, _⟩ := H.addM (.tail _ (.tail _ (.head _))) hn
      obtain ⟨A8, c8, rfl⟩ := (H2.ro 0 rfl).form
      refine H2.alloc 91 zero91 rfl ?_
      clear H2
      intro g8 w6 H2
      refine H2.storeAll 0 rfl size91 rfl (fun v hv => mc_one v hv) ?_
      clear H2
      intro w7 H2
      exact ⟨(g8, _, S8), ⟨rfl, rfl, trivial⟩, H2⟩
    clear H
    rintro ⟨g8, v8, S8⟩ u w5 H
    replace H : Hp w (fun _ => False) w5 [blk g8 91 (mc cols v8), blk g6 91 (mc cols v6), blk g3 91 (mc cols v3), blk g1 91 (mc cols (.slice A R.length ca))] [MatR S8 v8 R, MatR S6 v6 R, MatR S3 v3 R, MatR (fun g => g < w.heap.size) (.slice A R.length ca) R] := H
    obtain ⟨A8, c8, rfl⟩ := (H.ro 0 rfl).form
    obtain ⟨A6, c6, rfl⟩ := (H.ro 1 rfl).form
    obtain ⟨A3, c3, rfl⟩ := (H.ro 2 rfl).form
    refine fieldAddr_by (fa91_0 _) ?_
    refine H.load 3 rfl agg3 rfl ?_
    refine fieldAddr_by (fa91_1 _) ?_
    refine H.load 3 rfl agg89 rfl ?_
    refine call_fn (c84 cols R _ _ hl hlr (H.matAt 3 rfl)) ?_
    rintro _ w6 ⟨rfl, hk⟩
    replace H := H.same hk
    clear hk
    rw [hr]
    refine cond_yes rfl ?_
    refine cut_rule (γ := Unit) _ rfl (fun _ => [(10, .bool true)]) (fun _ w' => Hp.cl H w') ?_ ?_
    · refine fieldAddr_by (fa91_1 _) ?_
      refine H.load 2 rfl agg89 rfl ?_
      refine fieldAddr_by (fa91_1 _) ?_
      refine H.load 3 rfl agg89 rfl ?_
      refine call_fn (c85 R R _ _ _ hl hlr hlr (H.matAt 2 rfl) (H.matAt 3 rfl)) ?_ 
      rintro _ w12 ⟨rfl, hk12⟩ 
      replace H := H.same hk12 
      clear hk12
      refine cond_yes (decide_eq_true rfl) ?_
      refine fieldAddr_by (fa91_1 _) ?_
      refine cond_yes (decide_eq_true rfl) ?_
      refine H.load 1 rfl agg89 rfl ?_
      refine cond_yes (decide_eq_true rfl) ?_
      refine fieldAddr_by (fa91_1 _) ?_
      refine cond_yes (decide_eq_true rfl) ?_
      refine H.load 3 rfl agg89 rfl ?_
      refine cond_yes (decide_eq_true rfl) ?_
      refine call_fn (c85 R R _ _ _ hl hlr hlr (H.matAt 1 rfl) (H.matAt 3 rfl)) ?_ 
      rintro _ w22 ⟨rfl, hk22⟩ 
      replace H := H.same hk22 
      clear hk22
      iterate 2 refine cond_yes (decide_eq_true rfl) ?_
      refine fieldAddr_by (fa91_1 _) ?_
      refine cond_yes (decide_eq_true rfl) ?_
      refine H.load 0 rfl agg89 rfl ?_
      refine cond_yes (decide_eq_true rfl) ?_
      refine fieldAddr_by (fa91_1 _) ?_
      refine cond_yes (decide_eq_true rfl) ?_
      refine H.load 3 rfl agg89 rfl ?_
      refine cond_yes (decide_eq_true rfl) ?_
      refine call_fn (c85 R R _ _ _ hl hlr hlr (H.matAt 0 rfl) (H.matAt 3 rfl)) ?_ 
      rintro _ w33 ⟨rfl, hk33⟩ 
      replace H := H.same hk33 
      clear hk33
      refine cond_yes (decide_eq_true rfl) ?_
      exact ⟨(), ⟨congrArg Value.bool (decide_eq_true rfl), trivial⟩, H⟩
    · rintro ⟨⟩ u w7 H1
      replace H : Hp _ _ _ _ _ := H1
      clear H1
      iterate 13 refine cond_yes rfl ?_
      refine call_fn (c80 _) ?_ 
      rintro _ w22 ⟨rfl, hk22⟩ 
      replace H := H.same hk22 
      clear hk22
      refine cond_yes rfl ?_
      exact ⟨rfl, H.keeps⟩
  | true =>
    have hright := rightB_iff.1 hr
    obtain ⟨n, rfl⟩ : ∃ n : Nat, cols = n := ⟨cols.toNat, by have := hright.ge; omega⟩
    have hn4 : n ≤ 4000 := by have := hright.le; omega
    have hsm : Small R := ⟨hl, hlr⟩
    have hnd : ∀ r ∈ R, r.Nodup := fun r hr => (hright.rise r hr).nodup
    obtain ⟨T3, k3, b3, hT3, hc81, hc86⟩ : ∃ T3 k3 b3, Small T3 ∧ (∀ (S : Nat → Prop) (v : Value) (u : World), matOk S v R u → (∀ g, S g → g < u.heap.size) → Fun Try.prog 81 [mv n v] u fun o u' => ∃ v', o = .tuple #[mv n v', .int .i64 k3, .bool b3] ∧ NewM S u u' v' T3) ∧
        (∀ (S : Nat → Prop) (v : Value) (u : World), matOk S v R u → (∀ g, S g → g < u.heap.size) → Fun Try.prog 86 [v] u fun o u' => ∃ v', o = .tuple #[v', .int .i64 k3, .bool b3] ∧ NewM S u u' v' T3) := by
      refine ⟨_, _, _, small_take hsm, fun S v u h1 h2 => ?_, fun S v u h1 h2 => c86 R v S u hl hlr h1 h2⟩
      have := c81 n R v S u hl hlr h1 h2
      rwa [show takeO n R = takeS R by unfold takeO; rw [if_pos hr]] at this
    obtain ⟨T6, b6, hT6, hc82, hc87⟩ : ∃ T6 b6, Small T6 ∧ (∀ (S : Nat → Prop) (v : Value) (u : World), matOk S v R u → (∀ g, S g → g < u.heap.size) → Fun Try.prog 82 [mv n v] u fun o u' => ∃ v', o = .tuple #[mv n v', .bool b6] ∧ NewM S u u' v' T6) ∧
        (∀ (S : Nat → Prop) (v : Value) (u : World), matOk S v R u → (∀ g, S g → g < u.heap.size) → Fun Try.prog 87 [v] u fun o u' => ∃ v', o = .tuple #[v', .bool b6] ∧ NewM S u u' v' T6) := by
      refine ⟨_, _, small_rows hsm, fun S v u h1 h2 => ?_, fun S v u h1 h2 => c87 R v S u hl hlr hnd h1 h2⟩
      have := c82 n R v S u hl hlr h1 h2
      rwa [show rowsO n R = rowsS R by unfold rowsO; rw [if_pos hr]] at this
    obtain ⟨T8, b8, hT8, hc83, hc88⟩ : ∃ T8 b8, Small T8 ∧ (∀ (S : Nat → Prop) (v : Value) (u : World), matOk S v R u → (∀ g, S g → g < u.heap.size) → Fun Try.prog 83 [mv n v] u fun o u' => ∃ v', o = .tuple #[mv n v', .bool b8] ∧ NewM S u u' v' T8) ∧
        (∀ (S : Nat → Prop) (v : Value) (u : World), matOk S v R u → (∀ g, S g → g < u.heap.size) → Fun Try.prog 88 [v, .int .i64 (n : Int)] u fun o u' => ∃ v', o = .tuple #[v', .bool b8] ∧ NewM S u u' v' T8) := by
      refine ⟨_, _, small_cols (n := n) hsm, fun S v u h1 h2 => ?_, fun S v u h1 h2 => c88 R n v S u hl (by omega) hlr h1 h2⟩
      have := c83 n R v S u hl hlr h1 h2
      rwa [show colsO n R = colsS n R by unfold colsO; rw [if_pos hr, Int.toNat_natCast]] at this
    refine cut_rule (γ := Nat × Value × (Nat → Prop)) _ rfl (fun (g3, _) => [(3, .pointer (some ⟨g3, 0, none⟩)), (4, .int .i64 k3), (5, .bool b3)])
      (fun (g3, v3, S3) w' => Hp w (fun _ => False) w' [blk g3 91 (mc n v3), blk g1 91 (mc n (.slice A R.length ca))] [MatR S3 v3 T3, MatR (fun g => g < w.heap.size) (.slice A R.length ca) R]) ?_ ?_
    · refine H.loadAll 0 rfl agg91 size91 ?_
      refine call_fn (hc81 _ _ _ (H.ro 0 rfl) (H.rlt _ (.head _))) ?_
      rintro _ w3 ⟨v3, rfl, hn⟩
      obtain ⟨S3, H2, _⟩ := H.addM (.head _) hn
      obtain ⟨A3, c3, rfl⟩ := (H2.ro 0 rfl).form
      refine H2.alloc 91 zero91 rfl ?_
      clear H2
      intro g3 w4 H2
      refine H2.storeAll 0 rfl size91 rfl (fun v hv => mc_one v hv) ?_
      clear H2
      intro w5 H2
      exact ⟨(g3, _, S3), ⟨rfl, rfl, rfl, trivial⟩, H2⟩
    clear H
    rintro ⟨g3, v3, S3⟩ u w3 H
    replace H : Hp w (fun _ => False) w3 [blk g3 91 (mc n v3), blk g1 91 (mc n (.slice A R.length ca))] [MatR S3 v3 T3, MatR (fun g => g < w.heap.size) (.slice A R.length ca) R] := H
    refine cut_rule (γ := Nat × Value × (Nat → Prop)) _ rfl (fun (g6, _) => [(6, .pointer (some ⟨g6, 0, none⟩)), (7, .bool b6)])
      (fun (g6, v6, S6) w' => Hp w (fun _ => False) w' [blk g6 91 (mc n v6), blk g3 91 (mc n v3), blk g1 91 (mc n (.slice A R.length ca))] [MatR S6 v6 T6, MatR S3 v3 T3, MatR (fun g => g < w.heap.size) (.slice A R.length ca) R]) ?_ ?_
    · refine H.loadAll 1 rfl agg91 size91 ?_
      refine call_fn (hc82 _ _ _ (H.ro 1 rfl) (H.rlt _ (.tail _ (.head _)))) ?_
      rintro _ w4 ⟨v6, rfl, hn⟩
      obtain ⟨S6, H2, _⟩ := H.addM (.tail _ (.head _)) hn
      obtain ⟨A6, c6, rfl⟩ := (H2.ro 0 rfl).form
      refine H2.alloc 91 zero91 rfl ?_
      clear H2
      intro g6 w5 H2
      refine H2.storeAll 0 rfl size91 rfl (fun v hv => mc_one v hv) ?_
      clear H2
      intro w6 H2
      exact ⟨(g6, _, S6), ⟨rfl, rfl, trivial⟩, H2⟩
    clear H
    rintro ⟨g6, v6, S6⟩ u w4 H
    replace H : Hp w (fun _ => False) w4 [blk g6 91 (mc n v6), blk g3 91 (mc n v3), blk g1 91 (mc n (.slice A R.length ca))] [MatR S6 v6 T6, MatR S3 v3 T3, MatR (fun g => g < w.heap.size) (.slice A R.length ca) R] := H
    refine cut_rule (γ := Nat × Value × (Nat → Prop)) _ rfl (fun (g8, _) => [(8, .pointer (some ⟨g8, 0, none⟩)), (9, .bool b8)])
      (fun (g8, v8, S8) w' => Hp w (fun _ => False) w' [blk g8 91 (mc n v8), blk g6 91 (mc n v6), blk g3 91 (mc n v3), blk g1 91 (mc n (.slice A R.length ca))] [MatR S8 v8 T8, MatR S6 v6 T6, MatR S3 v3 T3, MatR (fun g => g < w.heap.size) (.slice A R.length ca) R]) ?_ ?_
    · refine H.loadAll 2 rfl agg91 size91 ?_
      refine call_fn (hc83 _ _ _ (H.ro 2 rfl) (H.rlt _ (.tail _ (.tail _ (.head _))))) ?_
      rintro _ w5 ⟨v8, rfl, hn⟩
      obtain ⟨S8, H2, _⟩ := H.addM (.tail _ (.tail _ (.head _))) hn
      obtain ⟨A8, c8, rfl⟩ := (H2.ro 0 rfl).form
      refine H2.alloc 91 zero91 rfl ?_
      clear H2
      intro g8 w6 H2
      refine H2.storeAll 0 rfl size91 rfl (fun v hv => mc_one v hv) ?_
      clear H2
      intro w7 H2
      exact ⟨(g8, _, S8), ⟨rfl, rfl, trivial⟩, H2⟩
    clear H
    rintro ⟨g8, v8, S8⟩ u w5 H
    replace H : Hp w (fun _ => False) w5 [blk g8 91 (mc n v8), blk g6 91 (mc n v6), blk g3 91 (mc n v3), blk g1 91 (mc n (.slice A R.length ca))] [MatR S8 v8 T8, MatR S6 v6 T6, MatR S3 v3 T3, MatR (fun g => g < w.heap.size) (.slice A R.length ca) R] := H
    obtain ⟨A8, c8, rfl⟩ := (H.ro 0 rfl).form
    obtain ⟨A6, c6, rfl⟩ := (H.ro 1 rfl).form
    obtain ⟨A3, c3, rfl⟩ := (H.ro 2 rfl).form
    refine cut_rule (γ := Unit) _ rfl (fun _ => []) (fun _ w' => Hp.cl H w') ?_ ?_
    · refine fieldAddr_by (fa91_0 _) ?_
      refine H.load 3 rfl agg3 rfl ?_
      refine fieldAddr_by (fa91_1 _) ?_
      refine H.load 3 rfl agg89 rfl ?_
      refine call_fn (c84 n R _ _ hl hlr (H.matAt 3 rfl)) ?_
      rintro _ w6 ⟨rfl, hk⟩
      rw [hr]
      refine cond_no rfl ?_
      exact ⟨(), trivial, H.same hk⟩
    rintro ⟨⟩ u w6 H1
    replace H : Hp _ _ _ _ _ := H1
    clear H1
    -- the reference's answers
    refine cut_rule (γ := Value × (Nat → Prop) × Option Addr × Nat) _ rfl (fun (v, _, A, c) => [(11, .slice A T3.length c), (12, .int .i64 k3), (13, .bool b3)])
      (fun (v, S9, A9, c9) w' => Hp w (fun _ => False) w' [blk g8 91 (mc n (.slice A8 T8.length c8)), blk g6 91 (mc n (.slice A6 T6.length c6)), blk g3 91 (mc n (.slice A3 T3.length c3)), blk g1 91 (mc n (.slice A R.length ca))] [MatR S8 (.slice A8 T8.length c8) T8, MatR S6 (.slice A6 T6.length c6) T6, MatR S3 (.slice A3 T3.length c3) T3, MatR (fun g => g < w.heap.size) (.slice A R.length ca) R, MatR S9 (.slice A9 T3.length c9) T3]) ?_ ?_
    · refine fieldAddr_by (fa91_1 _) ?_
      refine H.load 3 rfl agg89 rfl ?_
      refine call_fn (hc86 _ _ _ (H.ro 3 rfl) (H.rlt _ (.tail _ (.tail _ (.tail _ (.head _)))))) ?_
      rintro _ w7 ⟨v9, rfl, hn⟩
      obtain ⟨S9, H2, _⟩ := H.addM (.tail _ (.tail _ (.tail _ (.head _)))) hn
      obtain ⟨A9, c9, rfl⟩ := (H2.ro 0 rfl).form
      exact ⟨(.nilFunc, S9, A9, c9), ⟨rfl, rfl, rfl, trivial⟩, H2.weakenRO (by simp)⟩
    clear H
    rintro ⟨_, S9, A9, c9⟩ u w7 H
    replace H : Hp _ _ _ _ _ := H
    refine cut_rule (γ := Value × (Nat → Prop) × Option Addr × Nat) _ rfl (fun (v, _, A, c) => [(14, .slice A T6.length c), (15, .bool b6)])
      (fun (v, S10, A10, c10) w' => Hp w (fun _ => False) w' [blk g8 91 (mc n (.slice A8 T8.length c8)), blk g6 91 (mc n (.slice A6 T6.length c6)), blk g3 91 (mc n (.slice A3 T3.length c3)), blk g1 91 (mc n (.slice A R.length ca))] [MatR S8 (.slice A8 T8.length c8) T8, MatR S6 (.slice A6 T6.length c6) T6, MatR S3 (.slice A3 T3.length c3) T3, MatR (fun g => g < w.heap.size) (.slice A R.length ca) R, MatR S9 (.slice A9 T3.length c9) T3, MatR S10 (.slice A10 T6.length c10) T6]) ?_ ?_
    · refine fieldAddr_by (fa91_1 _) ?_
      refine H.load 3 rfl agg89 rfl ?_
      refine call_fn (hc87 _ _ _ (H.ro 3 rfl) (H.rlt _ (.tail _ (.tail _ (.tail _ (.head _)))))) ?_
      rintro _ w8 ⟨v9, rfl, hn⟩
      obtain ⟨S10, H2, _⟩ := H.addM (.tail _ (.tail _ (.tail _ (.head _)))) hn
      obtain ⟨A10, c10, rfl⟩ := (H2.ro 0 rfl).form
      exact ⟨(.nilFunc, S10, A10, c10), ⟨rfl, rfl, trivial⟩, H2.weakenRO (by simp)⟩
    clear H
    rintro ⟨_, S10, A10, c10⟩ u w8 H
    replace H : Hp _ _ _ _ _ := H
    refine cut_rule (γ := Value × (Nat → Prop) × Option Addr × Nat) _ rfl (fun (v, _, A, c) => [(16, .slice A T8.length c), (17, .bool b8)])
      (fun (v, S11, A11, c11) w' => Hp w (fun _ => False) w' [blk g8 91 (mc n (.slice A8 T8.length c8)), blk g6 91 (mc n (.slice A6 T6.length c6)), blk g3 91 (mc n (.slice A3 T3.length c3)), blk g1 91 (mc n (.slice A R.length ca))] [MatR S8 (.slice A8 T8.length c8) T8, MatR S6 (.slice A6 T6.length c6) T6, MatR S3 (.slice A3 T3.length c3) T3, MatR (fun g => g < w.heap.size) (.slice A R.length ca) R, MatR S9 (.slice A9 T3.length c9) T3, MatR S10 (.slice A10 T6.length c10) T6, MatR S11 (.slice A11 T8.length c11) T8]) ?_ ?_
    · refine fieldAddr_by (fa91_1 _) ?_
      refine H.load 3 rfl agg89 rfl ?_
      refine fieldAddr_by (fa91_0 _) ?_
      refine H.load 3 rfl agg3 rfl ?_
      refine call_fn (hc88 _ _ _ (H.ro 3 rfl) (H.rlt _ (.tail _ (.tail _ (.tail _ (.head _)))))) ?_
      rintro _ w9 ⟨v9, rfl, hn⟩
      obtain ⟨S11, H2, _⟩ := H.addM (.tail _ (.tail _ (.tail _ (.head _)))) hn
      obtain ⟨A11, c11, rfl⟩ := (H2.ro 0 rfl).form
      exact ⟨(.nilFunc, S11, A11, c11), ⟨rfl, rfl, trivial⟩, H2.weakenRO (by simp)⟩
    clear H
    rintro ⟨_, S11, A11, c11⟩ u w9 H
    replace H : Hp _ _ _ _ _ := H
    refine cut_rule (γ := Unit) _ rfl (fun _ => []) (fun _ w' => Hp.cl H w') ?_ ?_
    · refine fieldAddr_by (fa91_0 _) ?_
      refine H.load 2 rfl agg3 rfl ?_
      refine fieldAddr_by (fa91_0 _) ?_
      refine H.load 3 rfl agg3 rfl ?_
      refine cond_no (bne_self_eq_false _) ?_
      refine fieldAddr_by (fa91_0 _) ?_
      refine cond_no (bne_self_eq_false _) ?_
      refine H.load 1 rfl agg3 rfl ?_
      refine cond_no (bne_self_eq_false _) ?_
      refine fieldAddr_by (fa91_0 _) ?_
      refine cond_no (bne_self_eq_false _) ?_
      refine H.load 3 rfl agg3 rfl ?_
      iterate 3 refine cond_no (bne_self_eq_false _) ?_
      refine fieldAddr_by (fa91_0 _) ?_
      refine cond_no (bne_self_eq_false _) ?_
      refine H.load 0 rfl agg3 rfl ?_
      refine cond_no (bne_self_eq_false _) ?_
      refine fieldAddr_by (fa91_0 _) ?_
      refine cond_no (bne_self_eq_false _) ?_
      refine H.load 3 rfl agg3 rfl ?_
      iterate 3 refine cond_no (bne_self_eq_false _) ?_
      exact ⟨(), trivial, H⟩
    · rintro ⟨⟩ u w10 H1
      replace H : Hp _ _ _ _ _ := H1
      clear H1
      refine fieldAddr_by (fa91_1 _) ?_
      refine H.load 2 rfl agg89 rfl ?_
      refine call_fn (c85 T3 T3 _ _ _ hT3.1 hT3.2 hT3.2 (H.matAt 2 rfl) (H.matAt 4 rfl)) ?_ 
      rintro _ w13 ⟨rfl, hk13⟩ 
      replace H := H.same hk13 
      clear hk13
      iterate 7 refine cond_yes (decide_eq_true rfl) ?_
      refine bin_eql_bool Try.underlying4 ?_
      iterate 2 refine cond_yes (decide_eq_true rfl) ?_
      refine fieldAddr_by (fa91_1 _) ?_
      refine cond_yes (decide_eq_true rfl) ?_
      refine H.load 1 rfl agg89 rfl ?_
      iterate 2 refine cond_yes (decide_eq_true rfl) ?_
      refine call_fn (c85 T6 T6 _ _ _ hT6.1 hT6.2 hT6.2 (H.matAt 1 rfl) (H.matAt 5 rfl)) ?_ 
      rintro _ w29 ⟨rfl, hk29⟩ 
      replace H := H.same hk29 
      clear hk29
      iterate 4 refine cond_yes (decide_eq_true rfl) ?_
      refine bin_eql_bool Try.underlying4 ?_
      iterate 2 refine cond_yes (decide_eq_true rfl) ?_
      refine fieldAddr_by (fa91_1 _) ?_
      refine cond_yes (decide_eq_true rfl) ?_
      refine H.load 0 rfl agg89 rfl ?_
      iterate 2 refine cond_yes (decide_eq_true rfl) ?_
      refine call_fn (c85 T8 T8 _ _ _ hT8.1 hT8.2 hT8.2 (H.matAt 0 rfl) (H.matAt 6 rfl)) ?_ 
      rintro _ w42 ⟨rfl, hk42⟩ 
      replace H := H.same hk42 
      clear hk42
      iterate 4 refine cond_yes (decide_eq_true rfl) ?_
      refine bin_eql_bool Try.underlying4 ?_
      iterate 2 refine cond_yes (decide_eq_true rfl) ?_
      refine call_fn (c80 _) ?_ 
      rintro _ w50 ⟨rfl, hk50⟩ 
      replace H := H.same hk50 
      clear hk50
      refine cond_yes (decide_eq_true rfl) ?_
      exact ⟨rfl, H.keeps⟩
end Go.Proofs.Ytjebpngdinbckaa
end

section
/- ReduceAll. -/
namespace Go.Proofs.Ytjebpngdinbckaa
open Go.Dk
attribute [local irreducible] IntKind.wrap

theorem red_no {cols : Int} {R : Mat} (h : rightB cols R = false) : redT cols R = [] ∧ redR cols R = [] ∧ redC cols R = 0 ∧ redE cols R = 1 := by
  unfold redT redR redC redE; rw [h]; exact ⟨rfl, rfl, rfl, rfl⟩
theorem red_yes {n : Nat} {R : Mat} (h : rightB n R = true) : redT n R = risen n (endS n (R, [])).2 ∧ redR n R = (endS n (R, [])).1 ∧ redC n R = n ∧ redE n R = 0 := by
  unfold redT redR redC redE; rw [h, Int.toNat_natCast]; exact ⟨rfl, rfl, rfl, rfl⟩
theorem end_small {n : Nat} {R : Mat} (hR : RightM n R) (h : Small R) : Small (endS n (R, [])).1 := by
  have h1 := (end_inv hR).right
  have h2 : (endS n (R, [])).1.length ≤ R.length := run_len (s := (R, [])) _
  have := hR.le
  exact ⟨Nat.le_trans h2 h.1, fun r hr => by have := row_len h1 hr; omega⟩
theorem law14 (cols : Int) (R : Mat) (v1 : Value) (w : World) (hm : MatArg w v1 R) : Fun Try.prog 14 [mv cols v1] w fun v w' => v = .bool true ∧ Same w w' := by
  refine fun_of_W (N := 75) Try.func14 (by kernel_rfl) rfl rfl rfl (by simp) ?_
  have H := startM hm.mat (fun g hg => hg)
  obtain ⟨A, ca, hv1⟩ := hm.mat.form
  subst hv1
  refine H.box 91 (mv _ _) (cs := mc _ _) rfl ?_
  clear H
  intro g1 w1 H
  refine H.loadAll 0 rfl agg91 size91 ?_
  refine call_fn (c79 cols R _ _ hm.len (hm.mat.same H.keeps)) ?_
  rintro _ w2 ⟨rfl, hk⟩
  replace H := H.same hk
  clear hk
  refine cond_split (fun hg => ?_) (fun hg => ?_)
  · refine call_fn (c80 _) ?_
    rintro _ w3 ⟨rfl, hk⟩
    exact ⟨rfl, (H.same hk).keeps⟩
  obtain ⟨hl30, hr100, _⟩ := great_no hg
  have hl : R.length ≤ 1000000000 := by omega
  have hlr : ∀ r ∈ R, r.length ≤ 1000000000 := fun r hr => by have := hr100 r hr; omega
  refine cut_rule (γ := Option Addr × Nat × Nat × Value × (Nat → Prop)) _ rfl (fun (B, d, g4, _) => [(3, .slice B (redT cols R).length d), (4, .pointer (some ⟨g4, 0, none⟩)), (5, .int .i64 (redE cols R))])
    (fun (B, d, g4, v, S') w' => Hp w (fun _ => False) w' [blk g4 91 (mc (redC cols R) v), own 3 1 (.slice B (redT cols R).length d) (redT cols R).length (intsI (redT cols R)), blk g1 91 (mc cols (.slice A R.length ca))] [MatR S' v (redR cols R), MatR (fun g => g < w.heap.size) (.slice A R.length ca) R]) ?_ ?_
  · refine H.loadAll 0 rfl agg91 size91 ?_
    refine call_fn (c89 cols R _ _ _ hl hlr (H.ro 0 rfl) (H.rlt _ (.head _))) ?_
    rintro _ w3 ⟨B, d, v', S', rfl, HR, hS'⟩
    have H2 := H.merge HR fun r hr g hg => by
      rw [List.mem_singleton] at hr
      subst hr
      rcases hS' g hg with h | h
      · exact .inl h
      · exact .inr ⟨_, .head _, h⟩
    clear H HR
    obtain ⟨A1, c1, rfl⟩ := (H2.ro 0 rfl).form
    refine H2.alloc 91 zero91 rfl ?_
    clear H2
    intro g4 w4 H
    refine H.storeAll 0 rfl size91 rfl (fun v hv => mc_one v hv) ?_
    clear H
    intro w5 H
    exact ⟨(B, d, g4, _, S'), ⟨rfl, rfl, rfl, trivial⟩, H⟩
  clear H
  rintro ⟨B, d, g4, v, S'⟩ u w3 H
  replace H : Hp w (fun _ => False) w3 [blk g4 91 (mc (redC cols R) v), own 3 1 (.slice B (redT cols R).length d) (redT cols R).length (intsI (redT cols R)), blk g1 91 (mc cols (.slice A R.length ca))] [MatR S' v (redR cols R), MatR (fun g => g < w.heap.size) (.slice A R.length ca) R] := H
  obtain ⟨A4, c4, rfl⟩ := (H.ro 0 rfl).form
  refine fieldAddr_by (fa91_0 _) ?_
  refine H.load 2 rfl agg3 rfl ?_
  refine fieldAddr_by (fa91_1 _) ?_
  refine H.load 2 rfl agg89 rfl ?_
  refine call_fn (c84 cols R _ _ hl hlr (H.matAt 1 rfl)) ?_
  rintro _ w4 ⟨rfl, hk⟩
  replace H := H.same hk
  clear hk
  cases hr : rightB cols R with
  | false =>
    obtain ⟨e1, e2, e3, e4⟩ := red_no hr
    rw [e1, e2, e3] at H
    rw [e1, e2, e4]
    refine cond_yes rfl ?_
    refine len_sl Try.underlying32 ?_
    refine cond_yes rfl ?_
    refine fieldAddr_by (fa91_0 _) ?_
    refine cond_yes rfl ?_
    refine H.load 0 rfl agg3 rfl ?_
    iterate 3 refine cond_yes rfl ?_
    refine fieldAddr_by (fa91_1 _) ?_
    refine cond_yes rfl ?_
    refine H.load 0 rfl agg89 rfl ?_
    refine cond_yes rfl ?_
    refine len_sl Try.underlying89 ?_
    iterate 6 refine cond_yes rfl ?_
    refine call_fn (c80 _) ?_ 
    rintro _ w24 ⟨rfl, hk24⟩ 
    replace H := H.same hk24 
    clear hk24
    refine cond_yes rfl ?_
    exact ⟨rfl, H.keeps⟩
  | true =>
    have hright := rightB_iff.1 hr
    obtain ⟨n, rfl⟩ : ∃ n : Nat, cols = n := ⟨cols.toNat, by have := hright.ge; omega⟩
    have hsm := end_small hright ⟨hl, hlr⟩
    have hc90 := fun S v u h1 h2 => c90 n R v S u hl hright h1 h2
    obtain ⟨e1, e2, e3, e4⟩ := red_yes hr
    have htl := risen_len_le n (endS n (R, [])).2
    have hn4 : n ≤ 4000 := by have := hright.le; omega
    rw [e1, e2, e3] at H
    rw [e1, e2, e4]
    generalize risen n (endS n (R, [])).2 = tt at H hc90 htl ⊢
    generalize (endS n (R, [])).1 = rr at H hc90 hsm ⊢
    refine cond_no rfl ?_
    refine cut_rule (γ := Option Addr × Nat × Option Addr × Nat × (Nat → Prop)) _ rfl (fun (B, d, A, c, _) => [(6, .slice B tt.length d), (7, .slice A rr.length c)])
      (fun (B6, d6, A7, c7, S7) w' => Hp w (fun _ => False) w' [own 3 1 (.slice B6 tt.length d6) tt.length (intsI tt), blk g4 91 (mc n (.slice A4 rr.length c4)), own 3 1 (.slice B tt.length d) tt.length (intsI tt), blk g1 91 (mc n (.slice A R.length ca))] [MatR S7 (.slice A7 rr.length c7) rr, MatR S' (.slice A4 rr.length c4) rr, MatR (fun g => g < w.heap.size) (.slice A R.length ca) R]) ?_ ?_
    · refine fieldAddr_by (fa91_1 _) ?_
      refine H.load 2 rfl agg89 rfl ?_
      refine fieldAddr_by (fa91_0 _) ?_
      refine H.load 2 rfl agg3 rfl ?_
      refine call_fn (hc90 _ _ _ (H.ro 1 rfl) (H.rlt _ (.tail _ (.head _)))) ?_
      rintro _ w5 ⟨B6, d6, v7, S7, rfl, HR, hS7⟩
      have H2 := H.merge HR fun r hr g hg => by
        rw [List.mem_singleton] at hr
        subst hr
        rcases hS7 g hg with h | h
        · exact .inl h
        · exact .inr ⟨_, .tail _ (.head _), h⟩
      obtain ⟨A7, c7, rfl⟩ := (H2.ro 0 rfl).form
      exact ⟨(B6, d6, A7, c7, S7), ⟨rfl, rfl, trivial⟩, H2⟩
    clear H
    rintro ⟨B6, d6, A7, c7, S7⟩ u w5 H
    replace H : Hp _ _ _ _ _ := H
    refine call_fn (c91 tt tt _ _ _ _ _ (by omega) (by omega) (own_Sl (H.get 2 rfl)) (own_Sl (H.get 0 rfl))) ?_ 
    rintro _ w6 ⟨rfl, hk6⟩ 
    replace H := H.same hk6 
    clear hk6
    refine cond_yes (decide_eq_true rfl) ?_
    refine fieldAddr_by (fa91_1 _) ?_
    refine cond_yes (decide_eq_true rfl) ?_
    refine H.load 1 rfl agg89 rfl ?_
    iterate 2 refine cond_yes (decide_eq_true rfl) ?_
    refine call_fn (c85 rr rr _ _ _ hsm.1 hsm.2 hsm.2 (H.matAt 1 rfl) (H.matAt 0 rfl)) ?_ 
    rintro _ w13 ⟨rfl, hk13⟩ 
    replace H := H.same hk13 
    clear hk13
    iterate 2 refine cond_yes (decide_eq_true rfl) ?_
    refine fieldAddr_by (fa91_0 _) ?_
    refine cond_yes (decide_eq_true rfl) ?_
    refine H.load 1 rfl agg3 rfl ?_
    refine cond_yes (decide_eq_true rfl) ?_
    refine fieldAddr_by (fa91_0 _) ?_
    refine cond_yes (decide_eq_true rfl) ?_
    refine H.load 3 rfl agg3 rfl ?_
    iterate 6 refine cond_yes (decide_eq_true rfl) ?_
    refine call_fn (c80 _) ?_ 
    rintro _ w29 ⟨rfl, hk29⟩ 
    replace H := H.same hk29 
    clear hk29
    refine cond_yes (decide_eq_true rfl) ?_
    exact ⟨rfl, H.keeps⟩
end Go.Proofs.Ytjebpngdinbckaa
end

section
/- ReduceBest. -/
namespace Go.Proofs.Ytjebpngdinbckaa
open Go.Dk
attribute [local irreducible] IntKind.wrap

theorem any_snocI {l : List Int} {i : Nat} {x : Int} (p : Int → Bool) (hx : l[i]? = some x) : (l.take (i + 1)).any p = ((l.take i).any p || p x) := by
  rw [List.take_add_one, hx]; simp
theorem mem_snocI {l : List Int} {i : Nat} {x : Int} (k : Int) (hx : l[i]? = some x) : decide (k ∈ l.take (i + 1)) = (decide (k ∈ l.take i) || (k == x)) := by
  rw [List.take_add_one, hx, Bool.eq_iff_iff]
  simp
theorem ent126 : enters Try.prog 126 = true := by kernel_rfl
theorem c126 (R : Mat) (v1 : Value) (ks : List Int) (B : Option Addr) (cb : Nat) (w : World) (hl : R.length ≤ 1000000000) (hlr : ∀ r ∈ R, r.length ≤ 1000000000) (hkl : ks.length ≤ 1000000000) (h1 : MatAt w v1 R) (hs : Sl w (.slice B ks.length cb) 1 ks.length (intsI ks)) :
    Fun Try.prog 126 [v1, .slice B ks.length cb] w fun v w' => v = .bool (solvesB R ks) ∧ Same w w' := by
  refine fun_of_W (N := 47) Try.func126 ent126 rfl rfl rfl (by simp) ?_
  have H := Hp.start0 w
  obtain ⟨A, ca, va, rfl, ha, hra⟩ := h1.openM
  refine cut_rule (γ := Unit) _ rfl (fun _ => []) (fun _ w' => Hp.cl H w') ⟨(), trivial, H⟩ ?_
  rintro ⟨⟩ u w0 H1
  replace H : Hp _ _ _ _ _ := H1
  clear H1
  refine cut_rule (γ := Unit) _ rfl (fun _ => []) (fun _ w' => solvesB R ks = true ∧ Hp w (fun _ => False) w' [] []) ?_ ?_
  · refine loop_rule (γ := Nat) _ rfl (fun i => [(5, .int .i64 (i : Int))]) (fun i w' => (i ≤ R.length ∧ solvesB (R.take i) ks = true) ∧ Hp w (fun _ => False) w' [] []) (fun i => R.length - i) 0 ⟨rfl, trivial⟩ ⟨⟨Nat.zero_le _, by simp [solvesB]⟩, H⟩ ?_
    clear H
    rintro i u w1 ⟨⟨hi, hyes⟩, H⟩
    replace H : Hp _ _ _ _ _ := H
    refine len_sl Try.underlying89 ?_
    refine cond_dec (fun h7 => ?_) (fun h7 => ?_)
    · obtain ⟨x, hx⟩ : ∃ x, R[i]? = some x := ⟨_, List.getElem?_eq_getElem (by omega)⟩
      obtain ⟨g0, o0, rfl⟩ := ha.A (by omega)
      obtain ⟨Bx, cx, hget, hsx⟩ := hra i x hx
      have hxl := hlr x (List.mem_of_getElem? hx)
      have hsn := all_snocM (fun r => r.any fun k => decide (k ∈ ks)) hx
      refine cut_rule (γ := Unit) _ rfl (fun _ => []) (fun _ w' => (x.any fun k => decide (k ∈ ks)) = true ∧ Hp w (fun _ => False) w' [] []) ?_ ?_
      · refine cut_rule (γ := Unit) _ rfl (fun _ => [(6, .bool false)]) (fun _ w' => Hp w (fun _ => False) w' [] []) ⟨(), ⟨rfl, trivial⟩, H⟩ ?_
        clear H
        rintro ⟨⟩ u w2 H
        replace H : Hp _ _ _ _ _ := H
        refine cut_rule (γ := Unit) _ rfl (fun _ => [(6, .bool (x.any fun k => decide (k ∈ ks)))]) (fun _ w' => Hp w (fun _ => False) w' [] []) ?_ ?_
        · refine loop_rule (γ := Nat) _ rfl (fun j => [(7, .int .i64 (j : Int)), (6, .bool ((x.take j).any fun k => decide (k ∈ ks)))]) (fun j w' => j ≤ x.length ∧ Hp w (fun _ => False) w' [] []) (fun j => x.length - j) 0 ⟨rfl, rfl, trivial⟩ ⟨Nat.zero_le _, H⟩ ?_
          clear H
          rintro j u w3 ⟨hj, H⟩
          replace H : Hp _ _ _ _ _ := H
          refine idxAddr_sl Try.underlying89 (s := 1) size32 i rfl (by omega) (o' := o0 + i) (by omega) ?_
          refine H.loadSl (i := i) ha aggrow _ rfl hget ?_
          refine len_sl Try.underlying32 ?_
          refine cond_dec (fun h8 => ?_) (fun h8 => ?_)
          · obtain ⟨k, hk⟩ : ∃ k, x[j]? = some k := ⟨_, List.getElem?_eq_getElem (by omega)⟩
            obtain ⟨g2, o2, rfl⟩ := hsx.A (by omega)
            have hgk : (intsI x)[j]? = some (.int .i64 k) := by rw [intsI, List.getElem?_map, hk]; rfl
            have hsj := any_snocI (fun k => decide (k ∈ ks)) hk
            refine cut_rule (γ := Unit) _ rfl (fun _ => [(6, .bool ((x.take (j + 1)).any fun k => decide (k ∈ ks)))]) (fun _ w' => Hp w (fun _ => False) w' [] []) ?_ ?_
            · rw [hsj]
              generalize ((x.take j).any fun k => decide (k ∈ ks)) = b0
              refine loop_rule (γ := Nat) _ rfl (fun m => [(8, .int .i64 (m : Int)), (6, .bool (b0 || decide (k ∈ ks.take m)))]) (fun m w' => m ≤ ks.length ∧ Hp w (fun _ => False) w' [] []) (fun m => ks.length - m) 0 ⟨rfl, by simp; rfl, trivial⟩ ⟨Nat.zero_le _, H⟩ ?_
              clear H
              rintro m u w4 ⟨hm, H⟩
              replace H : Hp _ _ _ _ _ := H
              refine len_sl Try.underlying32 ?_
              refine cond_dec (fun h9 => ?_) (fun h9 => ?_)
              · obtain ⟨s, hks⟩ : ∃ s, ks[m]? = some s := ⟨_, List.getElem?_eq_getElem (by omega)⟩
                obtain ⟨g3, o3, rfl⟩ := hs.A (by omega)
                have hgs : (intsI ks)[m]? = some (.int .i64 s) := by rw [intsI, List.getElem?_map, hks]; rfl
                have hsm := mem_snocI k hks
                refine cut_rule (γ := Unit) _ rfl (fun _ => [(6, .bool (b0 || decide (k ∈ ks.take (m + 1))))]) (fun _ w' => Hp w (fun _ => False) w' [] []) ?_ ?_
                · rw [hsm, ← Bool.or_assoc]
                  generalize (b0 || decide (k ∈ ks.take m)) = b1
                  refine H.draw fol (by kernel_rfl) ?_
                  clear H
                  intro w5 H
                  refine cond_split (fun hb => ?_) (fun hb => ?_)
                  · iterate 12 refine cond_yes (by assumption) ?_
                    exact ⟨(), ⟨by rw [hb]; rfl, trivial⟩, H⟩
                  · iterate 2 refine cond_no (by assumption) ?_
                    refine quiet _ (fun w H => idxAddr_sl Try.underlying89 (s := 1) size32 i rfl (by omega) (o' := o0 + i) (by omega) ⟨rfl, rfl⟩) ?_
                    refine cond_no (by assumption) ?_
                    refine quiet _ (fun w H => H.loadSl (i := i) ha aggrow _ rfl hget ⟨rfl, rfl⟩) ?_
                    iterate 2 refine cond_no (by assumption) ?_
                    refine quiet _ (fun w H => idxAddr_sl Try.underlying32 (s := 1) size3 j rfl (by omega) (o' := o2 + j) (by omega) ⟨rfl, rfl⟩) ?_
                    refine cond_no (by assumption) ?_
                    refine quiet _ (fun w H => H.loadSl (i := j) hsx agg3 _ rfl hgk ⟨rfl, rfl⟩) ?_
                    iterate 3 refine cond_no (by assumption) ?_
                    refine quiet _ (fun w H => idxAddr_sl Try.underlying32 (s := 1) size3 m rfl (by omega) (o' := o3 + m) (by omega) ⟨rfl, rfl⟩) ?_
                    refine cond_no (by assumption) ?_
                    refine quiet _ (fun w H => H.loadSl (i := m) hs agg3 _ rfl hgs ⟨rfl, rfl⟩) ?_
                    iterate 2 refine cond_no (by assumption) ?_
                    exact ⟨(), ⟨by rw [hb]; rfl, trivial⟩, H⟩
                · clear H
                  rintro ⟨⟩ u w5 H
                  exact ⟨m + 1, by show ks.length - (m + 1) < ks.length - m; omega, ⟨up (by omega), rfl, trivial⟩, by show m + 1 ≤ ks.length; omega, H⟩
              · have e : ks.take m = ks := List.take_of_length_le (by omega)
                exact ⟨(), ⟨congrArg (fun l : List Int => Value.bool (b0 || decide (k ∈ l))) e, trivial⟩, H⟩
            · clear H
              rintro ⟨⟩ u w5 H
              exact ⟨j + 1, by show x.length - (j + 1) < x.length - j; omega, ⟨up (by omega), rfl, trivial⟩, by show j + 1 ≤ x.length; omega, H⟩
          · have e : x.take j = x := List.take_of_length_le (by omega)
            exact ⟨(), ⟨congrArg (fun l : List Int => Value.bool (l.any fun k => decide (k ∈ ks))) e, trivial⟩, H⟩
        · clear H
          rintro ⟨⟩ u w3 H
          replace H : Hp _ _ _ _ _ := H
          refine cond_split (fun hb => ?_) (fun hb => ?_)
          · refine ⟨congrArg Value.bool ?_, H.keeps⟩
            symm
            rw [Bool.eq_false_iff]
            intro hh
            have := List.all_eq_true.1 hh x (List.mem_of_getElem? hx)
            rw [this] at hb; cases hb
          · exact ⟨(), trivial, by simpa using hb, H⟩
      · clear H
        rintro ⟨⟩ u w2 ⟨hx1, H⟩
        replace H : Hp _ _ _ _ _ := H
        refine ⟨i + 1, by show R.length - (i + 1) < R.length - i; omega, ⟨up (by omega), trivial⟩, ⟨by show i + 1 ≤ R.length; omega, ?_⟩, H⟩
        show (R.take (i + 1)).all _ = true
        rw [hsn, hx1, Bool.and_true]; exact hyes
    · have e : R.take i = R := List.take_of_length_le (by omega)
      rw [e] at hyes
      exact ⟨(), trivial, hyes, H⟩
  · clear H
    rintro ⟨⟩ u w1 ⟨hyes, H⟩
    replace H : Hp _ _ _ _ _ := H
    exact ⟨by rw [hyes]; rfl, H.keeps⟩
end Go.Proofs.Ytjebpngdinbckaa
end

section
/- ReduceBest. -/
namespace Go.Proofs.Ytjebpngdinbckaa
open Go.Dk
attribute [local irreducible] IntKind.wrap

theorem bits_div (ch c : Nat) : (((ch / 2 ^ c : Nat) : Int) % 2 == 1) = ch.testBit c := by
  have e : ((ch / 2 ^ c : Nat) : Int) % 2 = ((ch / 2 ^ c % 2 : Nat) : Int) := by omega
  rw [e, Nat.testBit_eq_decide_div_mod_eq, Bool.eq_iff_iff]
  simp only [beq_iff_eq, decide_eq_true_eq]
  omega
theorem choice_len (ch n : Nat) : (choiceI ch n).length ≤ n := by
  have := bitsBelow_le ch n
  simpa [choiceI] using this
theorem ent92 : enters Try.prog 92 = true := by kernel_rfl
theorem c92 (n : Nat) (hn : n ≤ 20) (R : Mat) (v1 : Value) (w : World) (hl : R.length ≤ 1000000000) (hlr : ∀ r ∈ R, r.length ≤ 1000000000) (h1 : MatAt w v1 R) :
    Fun Try.prog 92 [.int .i64 (n : Int), v1] w fun v w' => ∃ b : Int, v = .int .i64 b ∧ IsBest n R b ∧ Same w w' := by
  refine fun_of_W (N := 55) Try.func92 ent92 rfl rfl rfl (by simp) ?_
  have H := Hp.start0 w
  obtain ⟨A, ca, hv⟩ := h1.form
  subst hv
  have hp : ∀ k, k ≤ 20 → 2 ^ k ≤ 1048576 := fun k hk => Nat.pow_le_pow_right (n := 2) (by decide) hk
  refine cut_rule (γ := Unit) _ rfl (fun _ => []) (fun _ w' => Hp.cl H w') ⟨(), trivial, H⟩ ?_
  rintro ⟨⟩ u w0 H1
  replace H : Hp _ _ _ _ _ := H1
  clear H1
  refine cut_rule (γ := Unit) _ rfl (fun _ => [(5, .int .i64 1)]) (fun _ w' => Hp.cl H w') ⟨(), ⟨rfl, trivial⟩, H⟩ ?_
  rintro ⟨⟩ u w0 H1
  replace H : Hp _ _ _ _ _ := H1
  clear H1
  refine cut_rule (γ := Unit) _ rfl (fun _ => [(5, .int .i64 ((2 ^ n : Nat) : Int))]) (fun _ w' => Hp.cl H w') ?_ ?_
  · refine loop_rule (γ := Nat) _ rfl (fun i => [(6, .int .i64 (i : Int)), (5, .int .i64 ((2 ^ i : Nat) : Int))]) (fun i w' => i ≤ n ∧ Hp.cl H w') (fun i => n - i) 0 ⟨rfl, rfl, trivial⟩ ⟨Nat.zero_le _, H⟩ ?_
    rintro i u w1 ⟨hi, H1⟩
    refine cond_dec (fun h7 => ?_) (fun h7 => ?_)
    · have hpi := hp i (by omega)
      have e : IntKind.i64.wrap (((2 ^ i : Nat) : Int) * 2) = ((2 ^ (i + 1) : Nat) : Int) := by
        generalize hq : 2 ^ i = q at hpi
        rw [Nat.pow_succ, hq, wrap_i64_in (by omega) (by omega)]; omega
      exact ⟨i + 1, by show n - (i + 1) < n - i; omega, ⟨up (by omega), congrArg (Value.int .i64) e, trivial⟩, by show i + 1 ≤ n; omega, H1⟩
    · have : i = n := by omega
      subst this
      exact ⟨(), ⟨rfl, trivial⟩, H1⟩
  rintro ⟨⟩ u w1 H1
  replace H : Hp _ _ _ _ _ := H1
  clear H1
  refine cut_rule (γ := Unit) _ rfl (fun _ => [(7, .int .i64 (-1))]) (fun _ w' => Hp w (fun _ => False) w' [] []) ⟨(), ⟨rfl, trivial⟩, H⟩ ?_
  clear H
  rintro ⟨⟩ u w1 H
  replace H : Hp _ _ _ _ _ := H
  have hpn := hp n hn
  refine cut_rule (γ := Int) _ rfl (fun b => [(7, .int .i64 b)]) (fun b w' => IsBest n R b ∧ Hp w (fun _ => False) w' [] []) ?_ ?_
  · generalize hq : 2 ^ n = q at hpn
    refine loop_rule (γ := Nat × Int) _ rfl (fun (ch, b) => [(8, .int .i64 (ch : Int)), (7, .int .i64 b)]) (fun (ch, b) w' => (ch ≤ q ∧ BestInv n R ch b) ∧ Hp w (fun _ => False) w' [] []) (fun (ch, _) => q - ch) (0, -1) ⟨rfl, rfl, trivial⟩ ⟨⟨Nat.zero_le _, bestInv_zero n R⟩, H⟩ ?_
    clear H
    rintro ⟨ch, b⟩ u w2 ⟨⟨hc, hb⟩, H⟩
    replace H : Hp w (fun _ => False) w2 [] [] := H
    refine cond_dec (fun h7 => ?_) (fun h7 => ?_)
    · refine cut_rule (γ := Int) _ rfl (fun b => [(7, .int .i64 b)]) (fun b w' => BestInv n R (ch + 1) b ∧ Hp w (fun _ => False) w' [] []) ?_ ?_
      · refine cut_rule (γ := Unit) _ rfl (fun _ => [(9, .slice none 0 0)]) (fun _ w' => Hp w (fun _ => False) w' [] []) ⟨(), ⟨rfl, trivial⟩, H⟩ ?_
        clear H
        rintro ⟨⟩ u w3 H
        replace H : Hp w (fun _ => False) w3 [] [] := H
        refine cut_rule (γ := Unit) _ rfl (fun _ => [(10, .int .i64 (ch : Int))]) (fun _ w' => Hp w (fun _ => False) w' [] []) ⟨(), ⟨rfl, trivial⟩, H⟩ ?_
        clear H
        rintro ⟨⟩ u w3 H
        replace H : Hp w (fun _ => False) w3 [] [] := H
        have H2 := H.ownNil 3 1
        clear H
        refine cut_rule (γ := Option Addr × Nat) _ rfl (fun (B, d) => [(9, .slice B (choiceI ch n).length d)]) (fun (B, d) w' => Hp w (fun _ => False) w' [own 3 1 (.slice B (choiceI ch n).length d) (choiceI ch n).length (intsI (choiceI ch n))] []) ?_ ?_
        · have hz : ((ch / 2 ^ 0 : Nat) : Int) = ch := by simp
          refine loop_rule (γ := Nat × Option Addr × Nat) _ rfl (fun (c, B, d) => [(11, .int .i64 (c : Int)), (10, .int .i64 ((ch / 2 ^ c : Nat) : Int)), (9, .slice B (choiceI ch c).length d)])
            (fun (c, B, d) w' => c ≤ n ∧ Hp w (fun _ => False) w' [own 3 1 (.slice B (choiceI ch c).length d) (choiceI ch c).length (intsI (choiceI ch c))] []) (fun (c, _) => n - c) (0, none, 0) ⟨rfl, by rw [hz]; rfl, rfl, trivial⟩ ⟨Nat.zero_le _, H2⟩ ?_
          clear H2
          rintro ⟨c, B, d⟩ u w4 ⟨hcn, H⟩
          replace H : Hp _ _ _ _ _ := H
          refine cond_dec (fun h8 => ?_) (fun h8 => ?_)
          · have hsn := choice_succ ch c
            have hcl := choice_len ch c
            have hbd := bits_div ch c
            have hdd : ch / 2 ^ (c + 1) = ch / 2 ^ c / 2 := by rw [Nat.pow_succ, Nat.div_div_eq_div_mul]
            have hle : ch / 2 ^ c ≤ ch := Nat.div_le_self _ _
            have hq2 : ((ch / 2 ^ c : Nat) : Int) / 2 = ((ch / 2 ^ (c + 1) : Nat) : Int) := by
              rw [hdd]
              generalize ch / 2 ^ c = q2
              omega
            have hq2b : ((ch / 2 ^ c : Nat) : Int) < 9223372036854775808 := by
              generalize ch / 2 ^ c = q2 at hle
              omega
            refine cut_rule (γ := Option Addr × Nat) _ rfl (fun (B, d) => [(10, .int .i64 ((ch / 2 ^ (c + 1) : Nat) : Int)), (9, .slice B (choiceI ch (c + 1)).length d)]) (fun (B, d) w' => Hp w (fun _ => False) w' [own 3 1 (.slice B (choiceI ch (c + 1)).length d) (choiceI ch (c + 1)).length (intsI (choiceI ch (c + 1)))] []) ?_ ?_
            · refine cut_rule (γ := Option Addr × Nat) _ rfl (fun (B, d) => [(9, .slice B (choiceI ch (c + 1)).length d)]) (fun (B, d) w' => Hp w (fun _ => False) w' [own 3 1 (.slice B (choiceI ch (c + 1)).length d) (choiceI ch (c + 1)).length (intsI (choiceI ch (c + 1)))] []) ?_ ?_
              · refine bin_rem_i64 (Int.natCast_nonneg _) (by decide) ?_
                refine cond_split (fun hb => ?_) (fun hb => ?_)
                · rw [hbd] at hb
                  rw [if_pos hb] at hsn
                  refine H.buildOne T32 rfl ?_
                  clear H
                  intro g11 w11 H
                  refine H.appendOne 0 T32 rfl rfl (by omega) (by omega) ?_
                  clear H
                  intro B2 d2 w12 H
                  have e1 : (choiceI ch (c + 1)).length = (choiceI ch c).length + 1 := by rw [hsn]; simp
                  have e2 : intsI (choiceI ch (c + 1)) = intsI (choiceI ch c) ++ [.int .i64 (c : Int)] := by rw [hsn, intsI_snoc]
                  exact ⟨(B2, d2), ⟨by rw [e1]; rfl, trivial⟩, by rw [e1, e2]; exact H⟩
                · rw [hbd] at hb
                  rw [if_neg (by rw [hb]; decide), List.append_nil] at hsn
                  exact ⟨(B, d), ⟨by rw [hsn]; rfl, trivial⟩, by rw [hsn]; exact H⟩
              · clear H
                rintro ⟨B2, d2⟩ u w5 H
                replace H : Hp _ _ _ _ _ := H
                refine bin_quo_i64 (Int.natCast_nonneg _) hq2b (by decide) ?_
                exact ⟨(B2, d2), ⟨congrArg (Value.int .i64) hq2, rfl, trivial⟩, H⟩
            · clear H
              rintro ⟨B2, d2⟩ u w5 H
              exact ⟨(c + 1, B2, d2), by show n - (c + 1) < n - c; omega, ⟨up (by omega), rfl, rfl, trivial⟩, by show c + 1 ≤ n; omega, H⟩
          · have : c = n := by omega
            subst this
            exact ⟨(B, d), ⟨rfl, trivial⟩, H⟩
        · clear H2
          rintro ⟨B, d⟩ u w4 H
          replace H : Hp _ _ _ _ _ := H
          have hcl := choice_len ch n
          have hge := bestInv_ge hb
          refine cut_rule (γ := Unit) _ rfl (fun _ => [(51, .bool ((decide (b < 0) || decide (((choiceI ch n).length : Int) < b)) && solvesB R (choiceI ch n)))]) (fun _ w' => Hp.cl H w') ?_ ?_
          · refine cond_dec (fun h5 => ?_) (fun h5 => ?_)
            · refine cond_yes (decide_eq_true (by assumption)) ?_
              iterate 3 refine cond_yes (decide_eq_true (by assumption)) ?_
              iterate 3 refine cond_yes rfl ?_
              refine call_fn (c126 R _ (choiceI ch n) _ _ _ hl hlr (by omega) (h1.same H.keeps) (own_Sl (H.get 0 rfl))) ?_ 
              rintro _ w14 ⟨rfl, hk14⟩ 
              replace H := H.same hk14 
              clear hk14
              refine cond_yes rfl ?_
              exact ⟨(), ⟨by rw [decide_eq_true h5, Bool.true_or, Bool.true_and]; rfl, trivial⟩, H⟩
            · refine cond_no (decide_eq_false (by assumption)) ?_
              refine len_sl Try.underlying32 ?_
              iterate 3 refine cond_no (decide_eq_false (by assumption)) ?_
              refine cond_dec (fun h22 => ?_) (fun h22 => ?_)
              · refine cond_yes (decide_eq_true (by assumption)) ?_
                refine cond_yes (decide_eq_true (by assumption)) ?_
                refine call_fn (c126 R _ (choiceI ch n) _ _ _ hl hlr (by omega) (h1.same H.keeps) (own_Sl (H.get 0 rfl))) ?_ 
                rintro _ w25 ⟨rfl, hk25⟩ 
                replace H := H.same hk25 
                clear hk25
                refine cond_yes (decide_eq_true (by assumption)) ?_
                exact ⟨(), ⟨by rw [decide_eq_true h22, Bool.or_true, Bool.true_and]; rfl, trivial⟩, H⟩
              · refine cond_no (decide_eq_false (by assumption)) ?_
                iterate 2 refine cond_no (decide_eq_false (by assumption)) ?_
                exact ⟨(), ⟨by rw [decide_eq_false h5, decide_eq_false h22]; rfl, trivial⟩, H⟩
          · rintro ⟨⟩ u w5 H1
            replace H : Hp _ _ _ _ _ := H1
            clear H1
            refine cond_split (fun hd => ?_) (fun hd => ?_)
            · simp only [Bool.and_eq_true, Bool.or_eq_true, decide_eq_true_eq] at hd
              refine len_sl Try.underlying32 ?_
              exact ⟨_, ⟨rfl, trivial⟩, bestInv_yes hb hd.1 (solvesB_iff.1 hd.2), H.forget⟩
            · refine ⟨b, ⟨rfl, trivial⟩, bestInv_no hb ?_, H.forget⟩
              rw [Bool.and_eq_false_iff] at hd
              rcases hd with hd | hd
              · simp only [Bool.or_eq_false_iff, decide_eq_false_iff_not] at hd
                exact .inl (by omega)
              · exact .inr fun hs => by rw [solvesB_iff.2 hs] at hd; cases hd
      · clear H
        rintro b2 u w3 ⟨hb2, H⟩
        exact ⟨(ch + 1, b2), by show q - (ch + 1) < q - ch; omega, ⟨up (by omega), rfl, trivial⟩, ⟨by show ch + 1 ≤ q; omega, hb2⟩, H⟩
    · have : ch = q := by omega
      subst this
      rw [← hq] at hb
      exact ⟨b, ⟨rfl, trivial⟩, bestInv_end hb, H⟩
  clear H
  rintro b u w2 ⟨hb, H⟩
  replace H : Hp _ _ _ _ _ := H
  exact ⟨b, rfl, hb, H.keeps⟩
end Go.Proofs.Ytjebpngdinbckaa
end

section
/- ReduceBest. -/
namespace Go.Proofs.Ytjebpngdinbckaa
open Go.Dk
attribute [local irreducible] IntKind.wrap

theorem ent93 : enters Try.prog 93 = true := by kernel_rfl
theorem c93 (cols : Int) (R : Mat) (v1 : Value) (ks : List Int) (B : Option Addr) (cb : Nat) (w : World) (hl : R.length ≤ 1000000000) (hlr : ∀ r ∈ R, r.length ≤ 1000000000) (hkl : ks.length ≤ 1000000000) (h1 : MatAt w v1 R) (hs : Sl w (.slice B ks.length cb) 1 ks.length (intsI ks)) :
    Fun Try.prog 93 [mv cols v1, .slice B ks.length cb] w fun v w' => v = .bool (rightB cols R && solvesB R ks) ∧ Same w w' := by
  refine fun_of_W (N := 49) Try.func93 ent93 rfl rfl rfl (by simp) ?_
  have H := Hp.start0 w
  obtain ⟨A, ca, va, rfl, ha, hra⟩ := h1.openM
  refine H.box 91 (mv _ _) (cs := mc _ _) rfl ?_
  clear H
  intro g1 w1 H
  refine H.loadAll 0 rfl agg91 size91 ?_
  refine call_fn (c171 cols R _ _ hl hlr (h1.same H.keeps)) ?_
  rintro _ w2 ⟨rfl, hk⟩
  replace H := H.same hk
  clear hk
  cases hr : rightB cols R with
  | false =>
    refine cond_yes rfl ?_
    exact ⟨rfl, H.keeps⟩
  | true =>
    refine cond_no rfl ?_
    rw [Bool.true_and]
    refine cut_rule (γ := Nat) _ rfl (fun r => [(5, .map (some r))]) (fun r w' => Hp w (fun _ => False) w' [mapR kaI vbB r [], blk g1 91 (mc cols (.slice A R.length ca))] []) ?_ ?_
    · refine H.makeMap kaI vbB ?_
      clear H
      intro r w4 H
      exact ⟨r, ⟨rfl, trivial⟩, H⟩
    clear H
    rintro r u w3 H
    replace H : Hp _ _ _ _ _ := H
    refine cut_rule (γ := List (Int × Bool)) _ rfl (fun _ => []) (fun l w' => lOk l ks ∧ Hp w (fun _ => False) w' [mapR kaI vbB r l, blk g1 91 (mc cols (.slice A R.length ca))] []) ?_ ?_
    · refine len_sl Try.underlying32 ?_
      refine loop_rule (γ := Nat × List (Int × Bool)) _ rfl (fun (i, _) => [(19, .int .i64 (i : Int))]) (fun (i, l) w' => (i ≤ ks.length ∧ lOk l (ks.take i)) ∧ Hp w (fun _ => False) w' [mapR kaI vbB r l, blk g1 91 (mc cols (.slice A R.length ca))] []) (fun (i, _) => ks.length - i) (0, []) ⟨rfl, trivial⟩ ⟨⟨Nat.zero_le _, fun c => rfl⟩, H⟩ ?_
      clear H
      rintro ⟨i, l⟩ u w4 ⟨⟨hi, hlk⟩, H⟩
      replace H : Hp _ _ _ _ _ := H
      refine cond_dec (fun h7 => ?_) (fun h7 => ?_)
      · obtain ⟨k, hk⟩ : ∃ k, ks[i]? = some k := ⟨_, List.getElem?_eq_getElem (by omega)⟩
        obtain ⟨g2, o2, rfl⟩ := hs.A (by omega)
        have hgk : (intsI ks)[i]? = some (.int .i64 k) := by rw [intsI, List.getElem?_map, hk]; rfl
        have htk : ks.take (i + 1) = ks.take i ++ [k] := by rw [List.take_add_one, hk]; rfl
        refine idxAddr_sl Try.underlying32 (s := 1) size3 i rfl (by omega) (o' := o2 + i) (by omega) ?_
        refine H.loadSl (i := i) hs agg3 _ rfl hgk ?_
        refine H.mapSet 0 rfl W210 k true ?_
        clear H
        intro w5 H
        exact ⟨(i + 1, aset l k true), by show ks.length - (i + 1) < ks.length - i; omega, ⟨up (by omega), trivial⟩, ⟨by show i + 1 ≤ ks.length; omega, by rw [htk]; exact hlk.add k⟩, H⟩
      · have e : ks.take i = ks := List.take_of_length_le (by omega)
        rw [e] at hlk
        exact ⟨l, trivial, hlk, H⟩
    clear H
    rintro l u w4 ⟨hlk, H⟩
    replace H : Hp _ _ _ _ _ := H
    refine cut_rule (γ := Unit) _ rfl (fun _ => []) (fun _ w' => solvesB R ks = true ∧ Hp w (fun _ => False) w' [mapR kaI vbB r l, blk g1 91 (mc cols (.slice A R.length ca))] []) ?_ ?_
    · refine fieldAddr_by (fa91_1 _) ?_
      refine H.load 1 rfl agg89 rfl ?_
      refine len_sl Try.underlying89 ?_
      refine loop_rule (γ := Nat) _ rfl (fun i => [(29, .int .i64 (i : Int))]) (fun i w' => (i ≤ R.length ∧ solvesB (R.take i) ks = true) ∧ Hp w (fun _ => False) w' [mapR kaI vbB r l, blk g1 91 (mc cols (.slice A R.length ca))] []) (fun i => R.length - i) 0 ⟨rfl, trivial⟩ ⟨⟨Nat.zero_le _, by simp [solvesB]⟩, H⟩ ?_
      clear H
      rintro i u w5 ⟨⟨hi, hyes⟩, H⟩
      replace H : Hp _ _ _ _ _ := H
      refine cond_dec (fun h7 => ?_) (fun h7 => ?_)
      · obtain ⟨x, hx⟩ : ∃ x, R[i]? = some x := ⟨_, List.getElem?_eq_getElem (by omega)⟩
        obtain ⟨g0, o0, rfl⟩ := ha.A (by omega)
        obtain ⟨Bx, cx, hget, hsx⟩ := hra i x hx
        have hxl := hlr x (List.mem_of_getElem? hx)
        have hsn := all_snocM (fun r => r.any fun k => decide (k ∈ ks)) hx
        refine cut_rule (γ := Unit) _ rfl (fun _ => []) (fun _ w' => (x.any fun k => decide (k ∈ ks)) = true ∧ Hp w (fun _ => False) w' [mapR kaI vbB r l, blk g1 91 (mc cols (.slice (some ⟨g0, o0, none⟩) R.length ca))] []) ?_ ?_
        · refine cut_rule (γ := Unit) _ rfl (fun _ => [(9, .slice Bx x.length cx)]) (fun _ w' => Hp.cl H w') ?_ ?_
          · refine idxAddr_sl Try.underlying89 (s := 1) size32 i rfl (by omega) (o' := o0 + i) (by omega) ?_
            refine H.loadSl (i := i) ha aggrow _ rfl hget ?_
            exact ⟨(), ⟨rfl, trivial⟩, H⟩
          rintro ⟨⟩ u w6 H1
          replace H : Hp _ _ _ _ _ := H1
          clear H1
          refine cut_rule (γ := Unit) _ rfl (fun _ => [(10, .bool false)]) (fun _ w' => Hp.cl H w') ⟨(), ⟨rfl, trivial⟩, H⟩ ?_
          rintro ⟨⟩ u w6 H1
          replace H : Hp _ _ _ _ _ := H1
          clear H1
          refine cut_rule (γ := Unit) _ rfl (fun _ => [(10, .bool (x.any fun k => decide (k ∈ ks)))]) (fun _ w' => Hp w (fun _ => False) w' [mapR kaI vbB r l, blk g1 91 (mc cols (.slice (some ⟨g0, o0, none⟩) R.length ca))] []) ?_ ?_
          · refine len_sl Try.underlying32 ?_
            refine loop_rule (γ := Nat) _ rfl (fun j => [(35, .int .i64 (j : Int)), (10, .bool ((x.take j).any fun k => decide (k ∈ ks)))]) (fun j w' => j ≤ x.length ∧ Hp w (fun _ => False) w' [mapR kaI vbB r l, blk g1 91 (mc cols (.slice (some ⟨g0, o0, none⟩) R.length ca))] []) (fun j => x.length - j) 0 ⟨rfl, rfl, trivial⟩ ⟨Nat.zero_le _, H⟩ ?_
            clear H
            rintro j u w7 ⟨hj, H⟩
            replace H : Hp _ _ _ _ _ := H
            refine cond_dec (fun h8 => ?_) (fun h8 => ?_)
            · obtain ⟨k, hk⟩ : ∃ k, x[j]? = some k := ⟨_, List.getElem?_eq_getElem (by omega)⟩
              obtain ⟨g2, o2, rfl⟩ := hsx.A (by omega)
              have hgk : (intsI x)[j]? = some (.int .i64 k) := by rw [intsI, List.getElem?_map, hk]; rfl
              have hsj := any_snocI (fun k => decide (k ∈ ks)) hk
              refine cut_rule (γ := Unit) _ rfl (fun _ => [(10, .bool ((x.take (j + 1)).any fun k => decide (k ∈ ks)))]) (fun _ w' => Hp w (fun _ => False) w' [mapR kaI vbB r l, blk g1 91 (mc cols (.slice (some ⟨g0, o0, none⟩) R.length ca))] []) ?_ ?_
              · refine idxAddr_sl Try.underlying32 (s := 1) size3 j rfl (by omega) (o' := o2 + j) (by omega) ?_
                refine H.loadSl (i := j) hsx agg3 _ rfl hgk ?_
                rw [hsj]
                generalize ((x.take j).any fun k => decide (k ∈ ks)) = b0
                refine cond_split (fun hb => ?_) (fun hb => ?_)
                · refine cond_yes hb ?_
                  refine cond_yes hb ?_
                  refine cond_yes hb ?_
                  exact ⟨(), ⟨by rw [hb]; rfl, trivial⟩, H⟩
                · refine cond_no hb ?_
                  refine cond_no hb ?_
                  refine H.lookup 0 rfl W210 k ?_
                  rw [hlk k]
                  by_cases hm : k ∈ ks
                  · rw [if_pos hm]
                    refine cond_no hb ?_
                    exact ⟨(), ⟨by rw [hb, decide_eq_true hm]; rfl, trivial⟩, H⟩
                  · rw [if_neg hm]
                    refine cond_no hb ?_
                    exact ⟨(), ⟨by rw [hb, decide_eq_false hm]; rfl, trivial⟩, H⟩
              · clear H
                rintro ⟨⟩ u w8 H
                exact ⟨j + 1, by show x.length - (j + 1) < x.length - j; omega, ⟨up (by omega), rfl, trivial⟩, by show j + 1 ≤ x.length; omega, H⟩
            · have e : x.take j = x := List.take_of_length_le (by omega)
              exact ⟨(), ⟨congrArg (fun l : List Int => Value.bool (l.any fun k => decide (k ∈ ks))) e, trivial⟩, H⟩
          · clear H
            rintro ⟨⟩ u w7 H
            replace H : Hp _ _ _ _ _ := H
            refine cond_split (fun hb => ?_) (fun hb => ?_)
            · refine ⟨congrArg Value.bool ?_, H.keeps⟩
              symm
              rw [Bool.eq_false_iff]
              intro hh
              have := List.all_eq_true.1 hh x (List.mem_of_getElem? hx)
              rw [this] at hb; cases hb
            · exact ⟨(), trivial, by simpa using hb, H⟩
        · clear H
          rintro ⟨⟩ u w6 ⟨hx1, H⟩
          replace H : Hp _ _ _ _ _ := H
          refine ⟨i + 1, by show R.length - (i + 1) < R.length - i; omega, ⟨up (by omega), trivial⟩, ⟨by show i + 1 ≤ R.length; omega, ?_⟩, H⟩
          show (R.take (i + 1)).all _ = true
          rw [hsn, hx1, Bool.and_true]; exact hyes
      · have e : R.take i = R := List.take_of_length_le (by omega)
        rw [e] at hyes
        exact ⟨(), trivial, hyes, H⟩
    · clear H
      rintro ⟨⟩ u w5 ⟨hyes, H⟩
      replace H : Hp _ _ _ _ _ := H
      exact ⟨by rw [hyes]; rfl, H.keeps⟩
/-- A covering's least number of columns, before and behind. -/
theorem best_end {n : Nat} {R : Mat} (hR : RightM n R) {a b : Int} (ha : IsBest n R a) (hb : IsBest n (endS n (R, [])).1 b) : a = if b < 0 then -1 else b + ((risen n (endS n (R, [])).2).length : Int) := by
  have hi := end_inv hR
  have h1 := hi.best b hb
  rw [← risen_len hi.nodup hi.rng] at h1
  exact best_unique ha h1
theorem best_sign {n : Nat} {R : Mat} {b : Int} (h : IsBest n R b) : b = -1 ∨ 0 ≤ b := by
  rcases h with ⟨rfl, _⟩ | ⟨S, _, _, rfl, _⟩
  · exact .inl rfl
  · exact .inr (Int.natCast_nonneg _)
theorem best_le {n : Nat} {R : Mat} {b : Int} (h : IsBest n R b) : b ≤ n := by
  rcases h with ⟨rfl, _⟩ | ⟨S, hS, _, rfl, _⟩
  · omega
  · have := len_sub (a := S) (b := (List.range n).map fun k : Nat => (k : Int)) hS.nodup fun k hk => by
      have := hS.rng k hk
      exact List.mem_map.2 ⟨k.toNat, List.mem_range.2 (by omega), by omega⟩
    simp at this
    omega
theorem law15 (cols : Int) (R : Mat) (v1 : Value) (w : World) (hm : MatArg w v1 R) : Fun Try.prog 15 [mv cols v1] w fun v w' => v = .bool true ∧ Same w w' := by
  refine fun_of_W (N := 78) Try.func15 (by kernel_rfl) rfl rfl rfl (by simp) ?_
  have H := startM hm.mat (fun g hg => hg)
  obtain ⟨A, ca, hv1⟩ := hm.mat.form
  subst hv1
  refine H.box 91 (mv _ _) (cs := mc _ _) rfl ?_
  clear H
  intro g1 w1 H
  refine cut_rule (γ := Unit) _ rfl (fun _ => []) (fun _ w' => (greatB cols R = false ∧ cols ≤ 9 ∧ rightB cols R = true) ∧ Hp.cl H w') ?_ ?_
  · refine H.loadAll 0 rfl agg91 size91 ?_
    refine call_fn (c79 cols R _ _ hm.len (hm.mat.same H.keeps)) ?_
    rintro _ w2 ⟨rfl, hk⟩
    replace H := H.same hk
    clear hk
    cases hg : greatB cols R with
    | true => iterate 12 refine cond_yes rfl ?_
              refine call_fn (c80 _) ?_ 
              rintro _ w15 ⟨rfl, hk15⟩ 
              replace H := H.same hk15 
              clear hk15
              exact ⟨rfl, H.keeps⟩
    | false =>
      obtain ⟨hl30, hr100, _⟩ := great_no hg
      have hl : R.length ≤ 1000000000 := by omega
      have hlr : ∀ r ∈ R, r.length ≤ 1000000000 := fun r hr => by have := hr100 r hr; omega
      cases hr : rightB cols R with
      | true =>
        refine cond_no rfl ?_
        refine fieldAddr_by (fa91_0 _) ?_
        refine cond_no rfl ?_
        refine H.load 0 rfl agg3 rfl ?_
        iterate 2 refine cond_no rfl ?_
        refine cond_dec (fun h9 => ?_) (fun h9 => ?_)
        · refine cond_yes (decide_eq_true (by assumption)) ?_
          iterate 5 refine cond_yes (decide_eq_true (by assumption)) ?_
          refine cond_yes rfl ?_
          refine call_fn (c80 _) ?_ 
          rintro _ w17 ⟨rfl, hk17⟩ 
          replace H := H.same hk17 
          clear hk17
          exact ⟨rfl, H.keeps⟩
        · refine fieldAddr_by (fa91_0 _) ?_
          refine cond_no (decide_eq_false (by assumption)) ?_
          refine H.load 0 rfl agg3 rfl ?_
          refine cond_no (decide_eq_false (by assumption)) ?_
          refine fieldAddr_by (fa91_1 _) ?_
          refine cond_no (decide_eq_false (by assumption)) ?_
          refine H.load 0 rfl agg89 rfl ?_
          refine cond_no (decide_eq_false (by assumption)) ?_
          refine call_fn (c84 cols R _ _ hl hlr (H.matAt 0 rfl)) ?_ 
          rintro _ w27 ⟨rfl, hk27⟩ 
          replace H := H.same hk27 
          clear hk27 
          rw [hr]
          iterate 2 refine cond_no (decide_eq_false (by assumption)) ?_
          refine cond_no rfl ?_
          exact ⟨(), trivial, ⟨rfl, by omega, rfl⟩, H⟩
      | false =>
        refine cond_no rfl ?_
        refine fieldAddr_by (fa91_0 _) ?_
        refine cond_no rfl ?_
        refine H.load 0 rfl agg3 rfl ?_
        iterate 2 refine cond_no rfl ?_
        refine cond_dec (fun h9 => ?_) (fun h9 => ?_)
        · refine cond_yes (decide_eq_true (by assumption)) ?_
          iterate 5 refine cond_yes (decide_eq_true (by assumption)) ?_
          refine cond_yes rfl ?_
          refine call_fn (c80 _) ?_ 
          rintro _ w17 ⟨rfl, hk17⟩ 
          replace H := H.same hk17 
          clear hk17
          exact ⟨rfl, H.keeps⟩
        · refine fieldAddr_by (fa91_0 _) ?_
          refine cond_no (decide_eq_false (by assumption)) ?_
          refine H.load 0 rfl agg3 rfl ?_
          refine cond_no (decide_eq_false (by assumption)) ?_
          refine fieldAddr_by (fa91_1 _) ?_
          refine cond_no (decide_eq_false (by assumption)) ?_
          refine H.load 0 rfl agg89 rfl ?_
          refine cond_no (decide_eq_false (by assumption)) ?_
          refine call_fn (c84 cols R _ _ hl hlr (H.matAt 0 rfl)) ?_ 
          rintro _ w27 ⟨rfl, hk27⟩ 
          replace H := H.same hk27 
          clear hk27 
          rw [hr]
          iterate 2 refine cond_no (decide_eq_false (by assumption)) ?_
          refine cond_yes rfl ?_
          refine call_fn (c80 _) ?_ 
          rintro _ w31 ⟨rfl, hk31⟩ 
          replace H := H.same hk31 
          clear hk31
          exact ⟨rfl, H.keeps⟩
  rintro ⟨⟩ u w2 ⟨⟨hg, hc9, hr⟩, H1⟩
  replace H : Hp _ _ _ _ _ := H1
  clear H1
  obtain ⟨hl30, hr100, _⟩ := great_no hg
  have hl : R.length ≤ 1000000000 := by omega
  have hlr : ∀ r ∈ R, r.length ≤ 1000000000 := fun r hr => by have := hr100 r hr; omega
  have hright := rightB_iff.1 hr
  obtain ⟨n, rfl⟩ : ∃ n : Nat, cols = n := ⟨cols.toNat, by have := hright.ge; omega⟩
  have hsm := end_small hright ⟨hl, hlr⟩
  have hR2 := (end_inv hright).right
  have hr2 := rightB_iff.2 hR2
  have hbest := fun a b => best_end (a := a) (b := b) hright
  obtain ⟨e1, e2, e3, e4⟩ := red_yes hr
  have htl := risen_len_le n (endS n (R, [])).2
  have hc89 := c89 n R
  rw [e1, e2, e3, e4] at hc89
  clear e1 e2 e3 e4 hR2
  generalize risen n (endS n (R, [])).2 = tt at hc89 htl hbest
  generalize (endS n (R, [])).1 = rr at hc89 hsm hbest hr2
  refine cut_rule (γ := Option Addr × Nat × Nat × Option Addr × Nat × (Nat → Prop)) _ rfl (fun (B, d, g4, _) => [(3, .slice B tt.length d), (4, .pointer (some ⟨g4, 0, none⟩)), (5, .int .i64 0)])
    (fun (B, d, g4, A4, c4, S') w' => Hp w (fun _ => False) w' [blk g4 91 (mc n (.slice A4 rr.length c4)), own 3 1 (.slice B tt.length d) tt.length (intsI tt), blk g1 91 (mc n (.slice A R.length ca))] [MatR S' (.slice A4 rr.length c4) rr, MatR (fun g => g < w.heap.size) (.slice A R.length ca) R]) ?_ ?_
  · refine H.loadAll 0 rfl agg91 size91 ?_
    refine call_fn (hc89 _ _ _ hl hlr (H.ro 0 rfl) (H.rlt _ (.head _))) ?_
    rintro _ w3 ⟨B, d, v', S', rfl, HR, hS'⟩
    have H2 := H.merge HR fun r hr g hg => by
      rw [List.mem_singleton] at hr
      subst hr
      rcases hS' g hg with h | h
      · exact .inl h
      · exact .inr ⟨_, .head _, h⟩
    clear H HR
    obtain ⟨A1, c1, rfl⟩ := (H2.ro 0 rfl).form
    refine H2.alloc 91 zero91 rfl ?_
    clear H2
    intro g4 w4 H
    refine H.storeAll 0 rfl size91 rfl (fun v hv => mc_one v hv) ?_
    clear H
    intro w5 H
    exact ⟨(B, d, g4, A1, c1, S'), ⟨rfl, rfl, rfl, trivial⟩, H⟩
  clear H
  rintro ⟨B, d, g4, A4, c4, S'⟩ u w3 H
  replace H : Hp w (fun _ => False) w3 [blk g4 91 (mc n (.slice A4 rr.length c4)), own 3 1 (.slice B tt.length d) tt.length (intsI tt), blk g1 91 (mc n (.slice A R.length ca))] [MatR S' (.slice A4 rr.length c4) rr, MatR (fun g => g < w.heap.size) (.slice A R.length ca) R] := H
  refine cut_rule (γ := Unit) _ rfl (fun _ => []) (fun _ w' => Hp.cl H w') ?_ ?_
  · refine cond_no (bne_self_eq_false _) ?_
    refine fieldAddr_by (fa91_0 _) ?_
    refine cond_no (bne_self_eq_false _) ?_
    refine H.load 0 rfl agg3 rfl ?_
    refine cond_no (bne_self_eq_false _) ?_
    refine fieldAddr_by (fa91_0 _) ?_
    refine cond_no (bne_self_eq_false _) ?_
    refine H.load 2 rfl agg3 rfl ?_
    iterate 3 refine cond_no (bne_self_eq_false _) ?_
    refine fieldAddr_by (fa91_0 _) ?_
    refine cond_no (bne_self_eq_false _) ?_
    refine H.load 0 rfl agg3 rfl ?_
    refine cond_no (bne_self_eq_false _) ?_
    refine fieldAddr_by (fa91_1 _) ?_
    refine cond_no (bne_self_eq_false _) ?_
    refine H.load 0 rfl agg89 rfl ?_
    refine cond_no (bne_self_eq_false _) ?_
    refine call_fn (c84 n rr _ _ hsm.1 hsm.2 (H.matAt 0 rfl)) ?_ 
    rintro _ w24 ⟨rfl, hk24⟩ 
    replace H := H.same hk24 
    clear hk24 
    rw [hr2]
    iterate 2 refine cond_no (bne_self_eq_false _) ?_
    refine cond_no rfl ?_
    exact ⟨(), trivial, H⟩
  rintro ⟨⟩ u w4 H1
  replace H : Hp w (fun _ => False) w4 [blk g4 91 (mc n (.slice A4 rr.length c4)), own 3 1 (.slice B tt.length d) tt.length (intsI tt), blk g1 91 (mc n (.slice A R.length ca))] [MatR S' (.slice A4 rr.length c4) rr, MatR (fun g => g < w.heap.size) (.slice A R.length ca) R] := H1
  clear H1
  refine cut_rule (γ := Int × Int) _ rfl (fun (a, b) => [(6, .int .i64 a), (7, .int .i64 b)]) (fun (a, b) w' => (IsBest n R a ∧ IsBest n rr b) ∧ Hp w (fun _ => False) w' [blk g4 91 (mc n (.slice A4 rr.length c4)), own 3 1 (.slice B tt.length d) tt.length (intsI tt), blk g1 91 (mc n (.slice A R.length ca))] [MatR S' (.slice A4 rr.length c4) rr, MatR (fun g => g < w.heap.size) (.slice A R.length ca) R]) ?_ ?_
  · refine H.draw fol (by kernel_rfl) ?_
    clear H
    intro w5 H
    refine quiet _ (fun w H => fieldAddr_by (fa91_0 _) ⟨rfl, rfl⟩) ?_
    refine quiet _ (fun w H => H.load 2 rfl agg3 rfl ⟨rfl, rfl⟩) ?_
    refine quiet _ (fun w H => fieldAddr_by (fa91_1 _) ⟨rfl, rfl⟩) ?_
    refine quiet _ (fun w H => H.load 2 rfl agg89 rfl ⟨rfl, rfl⟩) ?_
    refine call_fn (c92 n (by omega) R _ _ hl hlr (H.matAt 1 rfl)) ?_
    rintro _ w6 ⟨a, rfl, ha, hk⟩
    replace H := H.same hk
    refine ⟨.inl H, ?_⟩
    refine quiet _ (fun w H => fieldAddr_by (fa91_0 _) ⟨rfl, rfl⟩) ?_
    refine quiet _ (fun w H => H.load 0 rfl agg3 rfl ⟨rfl, rfl⟩) ?_
    refine quiet _ (fun w H => fieldAddr_by (fa91_1 _) ⟨rfl, rfl⟩) ?_
    refine quiet _ (fun w H => H.load 0 rfl agg89 rfl ⟨rfl, rfl⟩) ?_
    refine call_fn (c92 n (by omega) rr _ _ hsm.1 hsm.2 (H.matAt 0 rfl)) ?_
    rintro _ w7 ⟨b, rfl, hb, hk2⟩
    replace H := H.same hk2
    refine ⟨.inl H, ?_⟩
    exact ⟨(a, b), ⟨rfl, rfl, trivial⟩, ⟨ha, hb⟩, H⟩
  clear H
  rintro ⟨a, b⟩ u w5 ⟨⟨ha, hb⟩, H⟩
  replace H : Hp _ _ _ _ _ := H
  have hab := hbest a b ha hb
  have hbs := best_sign hb
  have hbl := best_le hb
  have hn9 : n ≤ 9 := by omega
  by_cases hneg : b < 0
  · rw [if_pos hneg] at hab
    have hb1 : b = -1 := by omega
    subst hb1; subst hab
    iterate 5 refine cond_yes rfl ?_
    refine call_fn (c80 _) ?_ 
    rintro _ w11 ⟨rfl, hk11⟩ 
    replace H := H.same hk11 
    clear hk11
    refine cond_yes rfl ?_
    exact ⟨rfl, H.keeps⟩
  · rw [if_neg hneg] at hab
    have hw : IntKind.i64.wrap ((tt.length : Int) + b) = b + (tt.length : Int) := by rw [wrap_i64_in (by omega) (by omega)]; omega
    iterate 3 refine cond_no (decide_eq_false (by omega)) ?_
    refine cond_no (decide_eq_false (by assumption)) ?_
    refine len_sl Try.underlying32 ?_
    refine cond_yes (by rw [hw, hab]; exact beq_self_eq_true _) ?_
    refine call_fn (c80 _) ?_ 
    rintro _ w12 ⟨rfl, hk12⟩ 
    replace H := H.same hk12 
    clear hk12
    refine cond_yes (by rw [hw, hab]; exact beq_self_eq_true _) ?_
    exact ⟨rfl, H.keeps⟩
end Go.Proofs.Ytjebpngdinbckaa
end

section
/- ReduceSolves. -/
namespace Go.Proofs.Ytjebpngdinbckaa
open Go.Dk
attribute [local irreducible] IntKind.wrap

theorem solves_risen {n : Nat} {R : Mat} (hR : RightM n R) {ks : List Int} (h : solvesB (endS n (R, [])).1 ks = true) : solvesB R (risen n (endS n (R, [])).2 ++ ks) = true := by
  have h1 := (end_inv hR).solves ks (solvesB_iff.1 h)
  refine solvesB_iff.2 fun r hr => ?_
  obtain ⟨k, hk, hkS⟩ := h1 r hr
  refine ⟨k, hk, ?_⟩
  rcases List.mem_append.1 hkS with h2 | h2
  · exact List.mem_append_left _ (mem_risen.2 ⟨hR.rng r hr k hk, h2⟩)
  · exact List.mem_append_right _ h2
theorem intsI_append (a b : List Int) : intsI (a ++ b) = intsI a ++ intsI b := by simp [intsI]
theorem intsI_one (l : List Int) : ∀ u ∈ intsI l, u.oneCell' = true := fun u hu => by
  obtain ⟨k, _, rfl⟩ := List.mem_map.1 hu
  rfl
theorem law16 (cols : Int) (R : Mat) (v1 v2 : Value) (ks : List Int) (w : World) (hm : MatArg w v1 R) (hk2 : IntsAt w v2 ks) : Fun Try.prog 16 [mv cols v1, v2] w fun v w' => v = .bool true ∧ Same w w' := by
  obtain ⟨B2, d2, rfl, hkl0, hko, hks⟩ := hk2
  refine fun_of_W (N := 69) Try.func16 (by kernel_rfl) rfl rfl rfl (by simp) ?_
  have H := startM hm.mat (fun g hg => hg)
  obtain ⟨A, ca, hv1⟩ := hm.mat.form
  subst hv1
  refine H.box 91 (mv _ _) (cs := mc _ _) rfl ?_
  clear H
  intro g1 w1 H
  refine cut_rule (γ := Unit) _ rfl (fun _ => []) (fun _ w' => (greatB cols R = false ∧ ks.length ≤ 100) ∧ Hp.cl H w') ?_ ?_
  · refine H.loadAll 0 rfl agg91 size91 ?_
    refine call_fn (c79 cols R _ _ hm.len (hm.mat.same H.keeps)) ?_
    rintro _ w2 ⟨rfl, hk⟩
    replace H := H.same hk
    clear hk
    cases hg : greatB cols R with
    | true => 
      iterate 5 refine cond_yes rfl ?_
      refine call_fn (c80 _) ?_ 
      rintro _ w8 ⟨rfl, hk8⟩ 
      replace H := H.same hk8 
      clear hk8
      exact ⟨rfl, H.keeps⟩
    | false =>
      iterate 2 refine cond_no rfl ?_
      refine len_sl Try.underlying32 ?_
      iterate 2 refine cond_no rfl ?_
      refine cond_dec (fun h8 => ?_) (fun h8 => ?_)
      · refine call_fn (c80 _) ?_ 
        rintro _ w9 ⟨rfl, hk9⟩ 
        replace H := H.same hk9 
        clear hk9
        exact ⟨rfl, H.keeps⟩
      · exact ⟨(), trivial, ⟨rfl, by omega⟩, H⟩
  rintro ⟨⟩ u w2 ⟨⟨hg, hkl⟩, H1⟩
  replace H : Hp _ _ _ _ _ := H1
  clear H1
  obtain ⟨hl30, hr100, _⟩ := great_no hg
  have hl : R.length ≤ 1000000000 := by omega
  have hlr : ∀ r ∈ R, r.length ≤ 1000000000 := fun r hr => by have := hr100 r hr; omega
  refine cut_rule (γ := Option Addr × Nat × Nat × Option Addr × Nat × (Nat → Prop)) _ rfl (fun (B, d, g4, _) => [(5, .slice B (redT cols R).length d), (6, .pointer (some ⟨g4, 0, none⟩)), (7, .int .i64 (redE cols R))])
    (fun (B, d, g4, A4, c4, S') w' => Hp w (fun _ => False) w' [blk g4 91 (mc (redC cols R) (.slice A4 (redR cols R).length c4)), own 3 1 (.slice B (redT cols R).length d) (redT cols R).length (intsI (redT cols R)), blk g1 91 (mc cols (.slice A R.length ca))] [MatR S' (.slice A4 (redR cols R).length c4) (redR cols R), MatR (fun g => g < w.heap.size) (.slice A R.length ca) R]) ?_ ?_
  · refine H.loadAll 0 rfl agg91 size91 ?_
    refine call_fn (c89 cols R _ _ _ hl hlr (H.ro 0 rfl) (H.rlt _ (.head _))) ?_
    rintro _ w3 ⟨B, d, v', S', rfl, HR, hS'⟩
    have H2 := H.merge HR fun r hr g hg => by
      rw [List.mem_singleton] at hr
      subst hr
      rcases hS' g hg with h | h
      · exact .inl h
      · exact .inr ⟨_, .head _, h⟩
    clear H HR
    obtain ⟨A1, c1, rfl⟩ := (H2.ro 0 rfl).form
    refine H2.alloc 91 zero91 rfl ?_
    clear H2
    intro g4 w4 H
    refine H.storeAll 0 rfl size91 rfl (fun v hv => mc_one v hv) ?_
    clear H
    intro w5 H
    exact ⟨(B, d, g4, A1, c1, S'), ⟨rfl, rfl, rfl, trivial⟩, H⟩
  clear H
  rintro ⟨B, d, g4, A4, c4, S'⟩ u w3 H
  replace H : Hp w (fun _ => False) w3 [blk g4 91 (mc (redC cols R) (.slice A4 (redR cols R).length c4)), own 3 1 (.slice B (redT cols R).length d) (redT cols R).length (intsI (redT cols R)), blk g1 91 (mc cols (.slice A R.length ca))] [MatR S' (.slice A4 (redR cols R).length c4) (redR cols R), MatR (fun g => g < w.heap.size) (.slice A R.length ca) R] := H
  cases hr : rightB cols R with
  | false =>
    obtain ⟨e1, e2, e3, e4⟩ := red_no hr
    rw [e1, e2, e3] at H
    rw [e1, e4]
    refine cond_yes rfl ?_
    refine len_sl Try.underlying32 ?_
    refine cond_yes rfl ?_
    refine call_fn (c80 _) ?_ 
    rintro _ w8 ⟨rfl, hk8⟩ 
    replace H := H.same hk8 
    clear hk8
    refine cond_yes rfl ?_
    exact ⟨rfl, H.keeps⟩
  | true =>
    have hright := rightB_iff.1 hr
    obtain ⟨n, rfl⟩ : ∃ n : Nat, cols = n := ⟨cols.toNat, by have := hright.ge; omega⟩
    have hsm := end_small hright ⟨hl, hlr⟩
    have hR2 := (end_inv hright).right
    have hr2 := rightB_iff.2 hR2
    have hn4 : n ≤ 4000 := by have := hright.le; omega
    obtain ⟨e1, e2, e3, e4⟩ := red_yes hr
    have htl := risen_len_le n (endS n (R, [])).2
    have hsol := solves_risen (ks := ks) hright
    have hend := end_end (cols := n) (R := R)
    rw [e1, e2, e3] at H
    rw [e1, e4]
    generalize risen n (endS n (R, [])).2 = tt at H htl hsol ⊢
    generalize (endS n (R, [])).1 = rr at H hsm hr2 hsol hend hR2
    clear e1 e2 e3 e4
    obtain ⟨f1, f2, f3, f4⟩ := red_yes hr2
    rw [hend] at f1 f2
    have f1' : redT n rr = [] := by rw [f1]; unfold risen; simp
    have hc89 := c89 n rr
    rw [f1', f2, f3, f4] at hc89
    refine cond_no rfl ?_
    refine cut_rule (γ := Unit) _ rfl (fun _ => []) (fun _ w' => Hp w (fun _ => False) w' [blk g4 91 (mc n (.slice A4 rr.length c4)), own 3 1 (.slice B tt.length d) tt.length (intsI tt), blk g1 91 (mc n (.slice A R.length ca))] [MatR S' (.slice A4 rr.length c4) rr, MatR (fun g => g < w.heap.size) (.slice A R.length ca) R]) ?_ ?_
    · refine H.draw fol (by kernel_rfl) ?_
      clear H
      intro w5 H
      refine quiet _ (fun w H => H.loadAll 0 rfl agg91 size91 ⟨rfl, rfl⟩) ?_
      refine call_fn (c93 n rr _ ks B2 d2 _ hsm.1 hsm.2 (by omega) (H.matAt 0 rfl) (hks.same H.keeps)) ?_
      rintro _ w6 ⟨rfl, hk⟩
      replace H := H.same hk
      clear hk
      rw [hr2, Bool.true_and]
      refine ⟨.inl H, ?_⟩
      cases hs : solvesB rr ks with
      | false => iterate 10 refine cond_no rfl ?_
                 exact ⟨(), trivial, H⟩
      | true =>
        have hsR := hsol hs
        refine cond_yes rfl ?_
        refine quiet _ (fun w H => H.loadAll 2 rfl agg91 size91 ⟨rfl, rfl⟩) ?_
        refine cond_yes rfl ?_
        refine Hp.buildNil H T32 ?_ 
        clear H 
        intro g10 w10 H 
        refine ⟨.inl H.forget, ?_⟩
        iterate 2 refine cond_yes rfl ?_
        refine H.appendSl 0 T32 rfl (own_Sl (H.get 2 rfl)) (intsI_one tt) (by omega) (by omega) ?_ 
        clear H 
        intro A13 k13 w13 H 
        refine ⟨.inl H.forget, ?_⟩
        iterate 2 refine cond_yes rfl ?_
        refine H.appendSl 0 T32 rfl (hks.same H.keeps) (intsI_one ks) (by omega) (by omega) ?_ 
        clear H 
        intro A16 k16 w16 H 
        refine ⟨.inl H.forget, ?_⟩
        refine cond_yes rfl ?_
        have ho := own_Sl (H.get 0 rfl)
        have el : 0 + tt.length + ks.length = (tt ++ ks).length := by rw [List.length_append]; omega
        have ei : ([] : List Value) ++ intsI tt ++ intsI ks = intsI (tt ++ ks) := by rw [intsI_append]; rfl
        rw [el, ei] at ho
        rw [el]
        refine call_fn (c93 n R _ (tt ++ ks) _ _ _ hl hlr (by rw [List.length_append]; omega) (H.matAt 1 rfl) ho) ?_
        rintro _ w60 ⟨rfl, hk⟩
        replace H := H.same hk
        clear hk
        rw [hr, hsR, Bool.true_and]
        refine ⟨.inl H.forget, ?_⟩
        replace H := H.forget
        iterate 2 refine cond_yes rfl ?_
        refine cond_no rfl ?_
        exact ⟨(), trivial, H⟩
    clear H
    rintro ⟨⟩ u w5 H
    replace H : Hp _ _ _ _ _ := H
    refine cut_rule (γ := Option Addr × Nat × Nat × Option Addr × Nat × (Nat → Prop)) _ rfl (fun (B, d, g9, _) => [(8, .slice B 0 d), (9, .pointer (some ⟨g9, 0, none⟩)), (10, .int .i64 0)])
      (fun (B8, d8, g9, A9, c9, S9) w' => Hp w (fun _ => False) w' [blk g9 91 (mc n (.slice A9 rr.length c9)), own 3 1 (.slice B8 0 d8) 0 [], blk g4 91 (mc n (.slice A4 rr.length c4)), own 3 1 (.slice B tt.length d) tt.length (intsI tt), blk g1 91 (mc n (.slice A R.length ca))] [MatR S9 (.slice A9 rr.length c9) rr, MatR S' (.slice A4 rr.length c4) rr, MatR (fun g => g < w.heap.size) (.slice A R.length ca) R]) ?_ ?_
    · refine H.loadAll 0 rfl agg91 size91 ?_
      refine call_fn (hc89 _ _ _ hsm.1 hsm.2 (H.ro 0 rfl) (H.rlt _ (.head _))) ?_
      rintro _ w6 ⟨B8, d8, v', S9, rfl, HR, hS9⟩
      have H2 := H.merge HR fun r hr g hg => by
        rw [List.mem_singleton] at hr
        subst hr
        rcases hS9 g hg with h | h
        · exact .inl h
        · exact .inr ⟨_, .head _, h⟩
      clear H HR
      obtain ⟨A9, c9, rfl⟩ := (H2.ro 0 rfl).form
      refine H2.alloc 91 zero91 rfl ?_
      clear H2
      intro g9 w7 H
      refine H.storeAll 0 rfl size91 rfl (fun v hv => mc_one v hv) ?_
      clear H
      intro w8 H
      exact ⟨(B8, d8, g9, A9, c9, S9), ⟨rfl, rfl, rfl, trivial⟩, H⟩
    clear H
    rintro ⟨B8, d8, g9, A9, c9, S9⟩ u w6 H
    replace H : Hp _ _ _ _ _ := H
    refine len_sl Try.underlying32 ?_
    iterate 4 refine cond_yes (decide_eq_true rfl) ?_
    refine fieldAddr_by (fa91_1 _) ?_
    refine cond_yes (decide_eq_true rfl) ?_
    refine H.load 0 rfl agg89 rfl ?_
    refine cond_yes (decide_eq_true rfl) ?_
    refine fieldAddr_by (fa91_1 _) ?_
    refine cond_yes (decide_eq_true rfl) ?_
    refine H.load 2 rfl agg89 rfl ?_
    refine cond_yes (decide_eq_true rfl) ?_
    refine call_fn (c85 rr rr _ _ _ hsm.1 hsm.2 hsm.2 (H.matAt 0 rfl) (H.matAt 1 rfl)) ?_ 
    rintro _ w21 ⟨rfl, hk21⟩ 
    replace H := H.same hk21 
    clear hk21
    iterate 2 refine cond_yes (decide_eq_true rfl) ?_
    refine call_fn (c80 _) ?_ 
    rintro _ w24 ⟨rfl, hk24⟩ 
    replace H := H.same hk24 
    clear hk24
    refine cond_yes (decide_eq_true rfl) ?_
    exact ⟨rfl, H.keeps⟩
end Go.Proofs.Ytjebpngdinbckaa
end

section
/- The search: the bound. -/
namespace Go.Proofs.Ytjebpngdinbckaa
open Go.Dk
attribute [local irreducible] IntKind.wrap

theorem drop_head {α : Type} {l : List α} {i : Nat} {x : α} (hx : l[i]? = some x) : l.drop i = x :: l.drop (i + 1) := by
  obtain ⟨hi, rfl⟩ := List.getElem?_eq_some_iff.1 hx
  exact List.drop_eq_getElem_cons hi
theorem lOk.get {l : List (Int × Bool)} {T : List Int} (h : lOk l T) (k : Int) : ((aget l k).map vbB).getD (.bool false) = .bool (decide (k ∈ T)) := by
  rw [h k]
  by_cases hk : k ∈ T
  · rw [if_pos hk, decide_eq_true hk]; rfl
  · rw [if_neg hk, decide_eq_false hk]; rfl
theorem bound_yes {R : Mat} {r used : List Int} (h : (r.any fun k => decide (k ∈ used)) = true) : boundS (r :: R) used = boundS R used := by
  show (if _ then _ else _) = _
  rw [if_pos h]
theorem bound_new {R : Mat} {r used : List Int} (h : (r.any fun k => decide (k ∈ used)) = false) : boundS (r :: R) used = boundS R (used ++ r) + 1 := by
  show (if _ then _ else _) = _
  rw [if_neg (by rw [h]; decide)]
theorem ent188 : enters Try.prog 188 = true := by kernel_rfl
theorem c188 (cols : Int) (R : Mat) (v1 : Value) (w : World) (hl : R.length ≤ 1000000000) (hlr : ∀ r ∈ R, r.length ≤ 1000000000) (h1 : MatAt w v1 R) :
    Fun Try.prog 188 [mv cols v1] w fun v w' => v = .int .i64 ((boundS R [] : Nat) : Int) ∧ Same w w' := by
  refine fun_of_W (N := 42) Try.func188 ent188 rfl rfl rfl (by simp) ?_
  have H := Hp.start0 w
  obtain ⟨A, ca, va, rfl, ha, hra⟩ := h1.openM
  have hbl := bound_le R []
  refine cut_rule (γ := Nat) _ rfl (fun g1 => [(1, .pointer (some ⟨g1, 0, none⟩))]) (fun g1 w' => Hp w (fun _ => False) w' [blk g1 91 (mc cols (.slice A R.length ca))] []) ?_ ?_
  · refine H.box 91 (mv _ _) (cs := mc _ _) rfl ?_
    clear H
    intro g1 w1 H
    exact ⟨g1, ⟨rfl, trivial⟩, H⟩
  clear H
  rintro g1 u w1 H
  replace H : Hp _ _ _ _ _ := H
  refine cut_rule (γ := Nat) _ rfl (fun r => [(3, .map (some r))]) (fun r w' => Hp w (fun _ => False) w' [mapR kaI vbB r [], blk g1 91 (mc cols (.slice A R.length ca))] []) ?_ ?_
  · refine H.makeMap kaI vbB ?_
    clear H
    intro r w4 H
    exact ⟨r, ⟨rfl, trivial⟩, H⟩
  clear H
  rintro r u w3 H
  replace H : Hp _ _ _ _ _ := H
  refine cut_rule (γ := Unit) _ rfl (fun _ => [(4, .int .i64 0)]) (fun _ w' => Hp.cl H w') ⟨(), ⟨rfl, trivial⟩, H⟩ ?_
  rintro ⟨⟩ u w3 H1
  replace H : Hp _ _ _ _ _ := H1
  clear H1
  refine cut_rule (γ := Unit) _ rfl (fun _ => []) (fun _ w' => Hp w (fun _ => False) w' [mapR kaI vbB r [], blk g1 91 (mc cols (.slice A R.length ca))] []) ⟨(), trivial, H⟩ ?_
  clear H
  rintro ⟨⟩ u w3 H
  replace H : Hp _ _ _ _ _ := H
  refine cut_rule (γ := List (Int × Bool)) _ rfl (fun _ => [(4, .int .i64 ((boundS R [] : Nat) : Int))]) (fun l w' => Hp w (fun _ => False) w' [mapR kaI vbB r l, blk g1 91 (mc cols (.slice A R.length ca))] []) ?_ ?_
  · refine fieldAddr_by (fa91_1 _) ?_
    refine H.load 1 rfl agg89 rfl ?_
    refine len_sl Try.underlying89 ?_
    refine loop_rule (γ := Nat × Nat × List Int × List (Int × Bool)) _ rfl (fun (i, n, _) => [(15, .int .i64 (i : Int)), (4, .int .i64 (n : Int))])
      (fun (i, n, used, l) w' => (i ≤ R.length ∧ n + boundS (R.drop i) used = boundS R [] ∧ lOk l used) ∧ Hp w (fun _ => False) w' [mapR kaI vbB r l, blk g1 91 (mc cols (.slice A R.length ca))] [])
      (fun (i, _) => R.length - i) (0, 0, [], []) ⟨rfl, rfl, trivial⟩ ⟨⟨Nat.zero_le _, by simp, fun c => rfl⟩, H⟩ ?_
    clear H
    rintro ⟨i, n, used, l⟩ u w4 ⟨⟨hi, hn, hlk⟩, H⟩
    replace H : Hp _ _ _ _ _ := H
    refine cond_dec (fun h7 => ?_) (fun h7 => ?_)
    · obtain ⟨x, hx⟩ : ∃ x, R[i]? = some x := ⟨_, List.getElem?_eq_getElem (by omega)⟩
      obtain ⟨g0, o0, rfl⟩ := ha.A (by omega)
      obtain ⟨Bx, cx, hget, hsx⟩ := hra i x hx
      have hxl := hlr x (List.mem_of_getElem? hx)
      rw [drop_head hx] at hn
      refine cut_rule (γ := Nat × List Int × List (Int × Bool)) _ rfl (fun (n, _) => [(4, .int .i64 (n : Int))]) (fun (n, used, l) w' => (n + boundS (R.drop (i + 1)) used = boundS R [] ∧ lOk l used) ∧ Hp w (fun _ => False) w' [mapR kaI vbB r l, blk g1 91 (mc cols (.slice (some ⟨g0, o0, none⟩) R.length ca))] []) ?_ ?_
      · refine cut_rule (γ := Unit) _ rfl (fun _ => [(6, .slice Bx x.length cx)]) (fun _ w' => Hp.cl H w') ?_ ?_
        · refine idxAddr_sl Try.underlying89 (s := 1) size32 i rfl (by omega) (o' := o0 + i) (by omega) ?_
          refine H.loadSl (i := i) ha aggrow _ rfl hget ?_
          exact ⟨(), ⟨rfl, trivial⟩, H⟩
        rintro ⟨⟩ u w6 H1
        replace H : Hp w (fun _ => False) w6 [mapR kaI vbB r l, blk g1 91 (mc cols (.slice (some ⟨g0, o0, none⟩) R.length ca))] [] := H1
        clear H1
        refine cut_rule (γ := Unit) _ rfl (fun _ => []) (fun _ w' => (x.any fun k => decide (k ∈ used)) = false ∧ Hp w (fun _ => False) w' [mapR kaI vbB r l, blk g1 91 (mc cols (.slice (some ⟨g0, o0, none⟩) R.length ca))] []) ?_ ?_
        · refine len_sl Try.underlying32 ?_
          refine loop_rule (γ := Nat) _ rfl (fun j => [(21, .int .i64 (j : Int))]) (fun j w' => (j ≤ x.length ∧ ((x.take j).any fun k => decide (k ∈ used)) = false) ∧ Hp w (fun _ => False) w' [mapR kaI vbB r l, blk g1 91 (mc cols (.slice (some ⟨g0, o0, none⟩) R.length ca))] []) (fun j => x.length - j) 0 ⟨rfl, trivial⟩ ⟨⟨Nat.zero_le _, by simp⟩, H⟩ ?_
          clear H
          rintro j u w7 ⟨⟨hj, hno⟩, H⟩
          replace H : Hp _ _ _ _ _ := H
          refine cond_dec (fun h8 => ?_) (fun h8 => ?_)
          · obtain ⟨k, hk⟩ : ∃ k, x[j]? = some k := ⟨_, List.getElem?_eq_getElem (by omega)⟩
            obtain ⟨g2, o2, rfl⟩ := hsx.A (by omega)
            have hgk : (intsI x)[j]? = some (.int .i64 k) := by rw [intsI, List.getElem?_map, hk]; rfl
            have hsj := any_snocI (fun k => decide (k ∈ used)) hk
            refine cut_rule (γ := Unit) _ rfl (fun _ => []) (fun _ w' => ((x.take (j + 1)).any fun k => decide (k ∈ used)) = false ∧ Hp w (fun _ => False) w' [mapR kaI vbB r l, blk g1 91 (mc cols (.slice (some ⟨g0, o0, none⟩) R.length ca))] []) ?_ ?_
            · refine cut_rule (γ := Unit) _ rfl (fun _ => [(8, .int .i64 k)]) (fun _ w' => Hp.cl H w') ?_ ?_
              · refine idxAddr_sl Try.underlying32 (s := 1) size3 j rfl (by omega) (o' := o2 + j) (by omega) ?_
                refine H.loadSl (i := j) hsx agg3 _ rfl hgk ?_
                exact ⟨(), ⟨rfl, trivial⟩, H⟩
              rintro ⟨⟩ u w8 H1
              replace H : Hp w (fun _ => False) w8 [mapR kaI vbB r l, blk g1 91 (mc cols (.slice (some ⟨g0, o0, none⟩) R.length ca))] [] := H1
              clear H1
              refine H.lookup 0 rfl W210 k ?_
              rw [hlk.get]
              refine cond_dec (fun hm => ?_) (fun hm => ?_)
              · have hany : (x.any fun k => decide (k ∈ used)) = true := List.any_eq_true.2 ⟨k, List.mem_of_getElem? hk, decide_eq_true hm⟩
                rw [bound_yes hany] at hn
                exact ⟨(n, used, l), ⟨rfl, trivial⟩, ⟨hn, hlk⟩, H⟩
              · exact ⟨(), trivial, by rw [hsj, hno, decide_eq_false hm]; rfl, H⟩
            · clear H
              rintro ⟨⟩ u w8 ⟨hno, H⟩
              exact ⟨j + 1, by show x.length - (j + 1) < x.length - j; omega, ⟨up (by omega), trivial⟩, ⟨by show j + 1 ≤ x.length; omega, hno⟩, H⟩
          · have e : x.take j = x := List.take_of_length_le (by omega)
            rw [e] at hno
            exact ⟨(), trivial, hno, H⟩
        clear H
        rintro ⟨⟩ u w7 ⟨hno, H⟩
        replace H : Hp _ _ _ _ _ := H
        rw [bound_new hno] at hn
        refine cut_rule (γ := Unit) _ rfl (fun _ => [(4, .int .i64 ((n + 1 : Nat) : Int))]) (fun _ w' => Hp w (fun _ => False) w' [mapR kaI vbB r l, blk g1 91 (mc cols (.slice (some ⟨g0, o0, none⟩) R.length ca))] []) ⟨(), ⟨up (by omega), trivial⟩, H⟩ ?_
        clear H
        rintro ⟨⟩ u w7 H
        replace H : Hp _ _ _ _ _ := H
        refine len_sl Try.underlying32 ?_
        refine loop_rule (γ := Nat × List (Int × Bool)) _ rfl (fun (j, _) => [(33, .int .i64 (j : Int))]) (fun (j, l) w' => (j ≤ x.length ∧ lOk l (used ++ x.take j)) ∧ Hp w (fun _ => False) w' [mapR kaI vbB r l, blk g1 91 (mc cols (.slice (some ⟨g0, o0, none⟩) R.length ca))] []) (fun (j, _) => x.length - j) (0, l) ⟨rfl, trivial⟩ ⟨⟨Nat.zero_le _, by simpa using hlk⟩, H⟩ ?_
        clear H hlk
        rintro ⟨j, l⟩ u w8 ⟨⟨hj, hlk⟩, H⟩
        replace H : Hp _ _ _ _ _ := H
        refine cond_dec (fun h8 => ?_) (fun h8 => ?_)
        · obtain ⟨k, hk⟩ : ∃ k, x[j]? = some k := ⟨_, List.getElem?_eq_getElem (by omega)⟩
          obtain ⟨g2, o2, rfl⟩ := hsx.A (by omega)
          have hgk : (intsI x)[j]? = some (.int .i64 k) := by rw [intsI, List.getElem?_map, hk]; rfl
          have htk : used ++ x.take (j + 1) = (used ++ x.take j) ++ [k] := by rw [List.take_add_one, hk, List.append_assoc]; rfl
          refine idxAddr_sl Try.underlying32 (s := 1) size3 j rfl (by omega) (o' := o2 + j) (by omega) ?_
          refine H.loadSl (i := j) hsx agg3 _ rfl hgk ?_
          refine H.mapSet 0 rfl W210 k true ?_
          clear H
          intro w9 H
          exact ⟨(j + 1, aset l k true), by show x.length - (j + 1) < x.length - j; omega, ⟨up (by omega), trivial⟩, ⟨by show j + 1 ≤ x.length; omega, by rw [htk]; exact hlk.add k⟩, H⟩
        · have e : x.take j = x := List.take_of_length_le (by omega)
          rw [e] at hlk
          exact ⟨(n + 1, used ++ x, l), ⟨rfl, trivial⟩, ⟨by omega, hlk⟩, H⟩
      · clear H hlk hn
        rintro ⟨n2, used2, l2⟩ u w6 ⟨⟨hn, hlk⟩, H⟩
        exact ⟨(i + 1, n2, used2, l2), by show R.length - (i + 1) < R.length - i; omega, ⟨up (by omega), rfl, trivial⟩, ⟨by show i + 1 ≤ R.length; omega, hn, hlk⟩, H⟩
    · have : i = R.length := by omega
      subst this
      rw [List.drop_length] at hn
      have hn : n = boundS R [] := by simpa [boundS] using hn
      exact ⟨l, ⟨by rw [hn]; rfl, trivial⟩, H⟩
  · clear H
    rintro l u w4 H
    replace H : Hp _ _ _ _ _ := H
    exact ⟨rfl, H.keeps⟩
theorem ent120 : enters Try.prog 120 = true := by kernel_rfl
theorem c120 (cols : Int) (R : Mat) (v1 : Value) (w : World) (hl : R.length ≤ 1000000000) (hlr : ∀ r ∈ R, r.length ≤ 1000000000) (h1 : MatAt w v1 R) :
    Fun Try.prog 120 [mv cols v1] w fun v w' => v = .tuple #[.int .i64 (if rightB cols R then (boundS R [] : Nat) else 0 : Int), .int .i64 (if rightB cols R then 0 else 1)] ∧ Same w w' := by
  refine fun_of_W (N := 9) Try.func120 ent120 rfl rfl rfl (by simp) ?_
  have H := Hp.start0 w
  obtain ⟨A, ca, hv⟩ := h1.form
  subst hv
  refine H.box 91 (mv _ _) (cs := mc _ _) rfl ?_
  clear H
  intro g1 w1 H
  refine H.loadAll 0 rfl agg91 size91 ?_
  refine call_fn (c171 cols R _ _ hl hlr (h1.same H.keeps)) ?_
  rintro _ w3 ⟨rfl, hk⟩
  replace H := H.same hk
  clear hk
  refine cond_split (fun hr => ?_) (fun hr => ?_)
  · have hno : rightB cols R = false := by simpa using hr
    rw [hno]
    exact ⟨rfl, H.keeps⟩
  · have hr' : rightB cols R = true := by simpa using hr
    refine H.loadAll 0 rfl agg91 size91 ?_
    refine call_fn (c188 cols R _ _ hl hlr (h1.same H.keeps)) ?_
    rintro _ w4 ⟨rfl, hk⟩
    replace H := H.same hk
    clear hk
    rw [hr']
    exact ⟨rfl, H.keeps⟩
theorem bare_snoc {R : Mat} {i : Nat} {x : List Int} (hx : R[i]? = some x) (h : bareB (R.take i) = false) (hn : x ≠ []) : bareB (R.take (i + 1)) = false := by
  have := any_snocM (fun r => r.isEmpty) hx
  unfold bareB at h ⊢
  rw [this, h]
  cases x with
  | nil => exact absurd rfl hn
  | cons => rfl
theorem bare_at {R : Mat} {i : Nat} (hx : R[i]? = some []) : bareB R = true := bareB_iff.2 (List.mem_of_getElem? hx)
theorem ent189 : enters Try.prog 189 = true := by kernel_rfl
theorem c189 (cols : Int) (R : Mat) (v1 : Value) (w : World) (hl : R.length ≤ 1000000000) (h1 : MatAt w v1 R) :
    Fun Try.prog 189 [mv cols v1] w fun v w' => v = .bool (!bareB R) ∧ Same w w' := by
  refine fun_of_W (N := 16) Try.func189 ent189 rfl rfl rfl (by simp) ?_
  have H := Hp.start0 w
  obtain ⟨A, ca, va, rfl, ha, hra⟩ := h1.openM
  refine cut_rule (γ := Nat) _ rfl (fun g1 => [(1, .pointer (some ⟨g1, 0, none⟩))]) (fun g1 w' => Hp w (fun _ => False) w' [blk g1 91 (mc cols (.slice A R.length ca))] []) ?_ ?_
  · refine H.box 91 (mv _ _) (cs := mc _ _) rfl ?_
    clear H
    intro g1 w1 H
    exact ⟨g1, ⟨rfl, trivial⟩, H⟩
  clear H
  rintro g1 u w1 H
  replace H : Hp _ _ _ _ _ := H
  refine cut_rule (γ := Unit) _ rfl (fun _ => []) (fun _ w' => bareB R = false ∧ Hp w (fun _ => False) w' [blk g1 91 (mc cols (.slice A R.length ca))] []) ?_ ?_
  · refine fieldAddr_by (fa91_1 _) ?_
    refine H.load 0 rfl agg89 rfl ?_
    refine len_sl Try.underlying89 ?_
    refine loop_rule (γ := Nat) _ rfl (fun i => [(8, .int .i64 (i : Int))]) (fun i w' => (i ≤ R.length ∧ bareB (R.take i) = false) ∧ Hp w (fun _ => False) w' [blk g1 91 (mc cols (.slice A R.length ca))] []) (fun i => R.length - i) 0 ⟨rfl, trivial⟩ ⟨⟨Nat.zero_le _, rfl⟩, H⟩ ?_
    clear H
    rintro i u w5 ⟨⟨hi, hno⟩, H⟩
    replace H : Hp _ _ _ _ _ := H
    refine cond_dec (fun h7 => ?_) (fun h7 => ?_)
    · obtain ⟨x, hx⟩ : ∃ x, R[i]? = some x := ⟨_, List.getElem?_eq_getElem (by omega)⟩
      obtain ⟨g0, o0, rfl⟩ := ha.A (by omega)
      obtain ⟨Bx, cx, hget, hsx⟩ := hra i x hx
      refine cut_rule (γ := Unit) _ rfl (fun _ => []) (fun _ w' => bareB (R.take (i + 1)) = false ∧ Hp w (fun _ => False) w' [blk g1 91 (mc cols (.slice (some ⟨g0, o0, none⟩) R.length ca))] []) ?_ ?_
      · refine idxAddr_sl Try.underlying89 (s := 1) size32 i rfl (by omega) (o' := o0 + i) (by omega) ?_
        refine H.loadSl (i := i) ha aggrow _ rfl hget ?_
        refine len_sl Try.underlying32 ?_
        refine cond_beq (fun h8 => ?_) (fun h8 => ?_)
        · obtain rfl : x = [] := List.length_eq_zero_iff.1 (by omega)
          rw [bare_at hx]
          exact ⟨rfl, H.keeps⟩
        · exact ⟨(), trivial, bare_snoc hx hno (fun e => h8 (by rw [e]; rfl)), H⟩
      · clear H
        rintro ⟨⟩ u w6 ⟨hno, H⟩
        exact ⟨i + 1, by show R.length - (i + 1) < R.length - i; omega, ⟨up (by omega), trivial⟩, ⟨by show i + 1 ≤ R.length; omega, hno⟩, H⟩
    · have : i = R.length := by omega
      subst this
      rw [List.take_length] at hno
      exact ⟨(), trivial, hno, H⟩
  · clear H
    rintro ⟨⟩ u w6 ⟨hno, H⟩
    replace H : Hp _ _ _ _ _ := H
    rw [hno]
    exact ⟨rfl, H.keeps⟩
end Go.Proofs.Ytjebpngdinbckaa
end

section
/- The search: without, rising. -/
namespace Go.Proofs.Ytjebpngdinbckaa
open Go.Dk
attribute [local irreducible] IntKind.wrap

theorem matOk.rows {S : Nat → Prop} {v : Value} {R : Mat} {w : World} (h : matOk S v R w) (hS : ∀ g, S g → g < w.heap.size) : ∃ A c va, v = .slice A R.length c ∧ Sl w (.slice A R.length c) 1 R.length va ∧
    ∀ (i : Nat) (x : List Int), R[i]? = some x → ∃ Bx cx, va[i]? = some (.slice Bx x.length cx) ∧ rowV S w (.slice Bx x.length cx) x ∧ Sl w (.slice Bx x.length cx) 1 x.length (intsI x) := by
  obtain ⟨A, ca, va, rfl, ha0, hr0⟩ := h
  have ha : Sl w (.slice A R.length ca) 1 R.length va := sl.mono ha0 hS
  have hvl : va.length = R.length := by have := ha.1; omega
  refine ⟨A, ca, va, rfl, ha, fun i x hx => ?_⟩
  have hil := (List.getElem?_eq_some_iff.1 hx).1
  have hu : va[i]? = some (va[i]'(by omega)) := List.getElem?_eq_getElem (by omega)
  obtain ⟨Bx, cx, hux, hsx0⟩ := hr0 i _ x hu hx
  rw [hux] at hu
  exact ⟨Bx, cx, hu, ⟨Bx, cx, rfl, hsx0⟩, sl.mono hsx0 hS⟩
theorem without_snoc {R : Mat} {i : Nat} {x : List Int} (c : Int) (hx : R[i]? = some x) : withoutM (R.take (i + 1)) c = withoutM (R.take i) c ++ (if c ∈ x then [] else [x]) := by
  unfold withoutM
  rw [filter_snoc _ hx]
  by_cases h : c ∈ x <;> simp [h]
theorem without_len (R : Mat) (c : Int) : (withoutM R c).length ≤ R.length := List.length_filter_le _ _
theorem ent191 : enters Try.prog 191 = true := by kernel_rfl
theorem c191 (cols : Int) (R : Mat) (c : Int) (v1 : Value) (S : Nat → Prop) (w : World) (hl : R.length ≤ 1000000000) (hlr : ∀ r ∈ R, r.length ≤ 1000000000) (h1 : matOk S v1 R w) (hS : ∀ g, S g → g < w.heap.size) :
    Fun Try.prog 191 [mv cols v1, .int .i64 c] w fun v w' => ∃ v', v = mv cols v' ∧ NewM S w w' v' (withoutM R c) := by
  refine fun_of_W (N := 44) Try.func191 ent191 rfl rfl rfl (by simp) ?_
  have H := Hp.start0 w
  obtain ⟨A, ca, va, rfl, ha, hrow⟩ := h1.rows hS
  refine H.box 91 (mv _ _) (cs := mc _ _) rfl ?_
  clear H
  intro g1 w1 H
  refine H.alloc 91 zero91 rfl ?_
  clear H
  intro g2 w2 H
  refine cut_rule (γ := Nat) _ rfl (fun g3 => [(5, .pointer (some ⟨g3, 0, none⟩))]) (fun g3 w' => Hp w (fun _ => False) w' [blk g3 91 (mc cols (.slice none 0 0)), blk g2 91 (mv 0 (.slice none 0 0)).cells, blk g1 91 (mc cols (.slice A R.length ca))] []) ?_ ?_
  · refine fieldAddr_by (fa91_0 _) ?_
    refine H.load 1 rfl agg3 rfl ?_
    refine build91a ?_
    refine H.alloc 91 zero91 rfl ?_ 
    clear H 
    intro g3 w3 H
    refine H.storeAll 0 rfl size91 rfl (fun v hv => mc_one v hv) ?_ 
    clear H 
    intro w7 H
    exact ⟨_, ⟨rfl, trivial⟩, H⟩
  clear H
  rintro g3 u w3 H
  replace H : Hp _ _ _ _ _ := H
  replace H := (H.ownNil 32 1).front 1 rfl
  refine cut_rule (γ := Option Addr × Nat × List Value) _ rfl (fun _ => []) (fun (B, d, hs) w' => hsOk S w hs (withoutM R c) ∧
    Hp w (fun _ => False) w' [blk g3 91 (mc cols (.slice B hs.length d)), own 32 1 (.slice B hs.length d) hs.length hs, blk g2 91 (mv 0 (.slice none 0 0)).cells, blk g1 91 (mc cols (.slice A R.length ca))] []) ?_ ?_
  · refine fieldAddr_by (fa91_1 _) ?_
    refine H.load 3 rfl agg89 rfl ?_
    refine len_sl Try.underlying89 ?_
    refine loop_rule (γ := Nat × Option Addr × Nat × List Value) _ rfl (fun (i, _) => [(17, .int .i64 (i : Int))])
      (fun (i, B, d, hs) w' => (i ≤ R.length ∧ hsOk S w hs (withoutM (R.take i) c)) ∧
        Hp w (fun _ => False) w' [blk g3 91 (mc cols (.slice B hs.length d)), own 32 1 (.slice B hs.length d) hs.length hs, blk g2 91 (mv 0 (.slice none 0 0)).cells, blk g1 91 (mc cols (.slice A R.length ca))] [])
      (fun (i, _) => R.length - i) (0, none, 0, []) ⟨rfl, trivial⟩ ⟨⟨Nat.zero_le _, hsOk.nil _ _⟩, H⟩ ?_
    clear H
    rintro ⟨i, B, d, hs⟩ u w4 ⟨⟨hi, hhs⟩, H⟩
    replace H : Hp _ _ _ _ _ := H
    refine cond_dec (fun h7 => ?_) (fun h7 => ?_)
    · obtain ⟨x, hx⟩ : ∃ x, R[i]? = some x := ⟨_, List.getElem?_eq_getElem (by omega)⟩
      obtain ⟨g0, o0, rfl⟩ := ha.A (by omega)
      obtain ⟨Bx, cx, hget, hrv, hsx⟩ := hrow i x hx
      have hxl := hlr x (List.mem_of_getElem? hx)
      have hsn := without_snoc c hx
      have hb1 : hs.length ≤ 1000000000 := by have h1 := hhs.1; have h2 := without_len (R.take i) c; rw [List.length_take] at h2; omega
      refine cut_rule (γ := Option Addr × Nat × List Value) _ rfl (fun _ => []) (fun (B, d, hs) w' => hsOk S w hs (withoutM (R.take (i + 1)) c) ∧
        Hp w (fun _ => False) w' [blk g3 91 (mc cols (.slice B hs.length d)), own 32 1 (.slice B hs.length d) hs.length hs, blk g2 91 (mv 0 (.slice none 0 0)).cells, blk g1 91 (mc cols (.slice (some ⟨g0, o0, none⟩) R.length ca))] []) ?_ ?_
      · refine cut_rule (γ := Unit) _ rfl (fun _ => [(7, .slice Bx x.length cx)]) (fun _ w' => Hp.cl H w') ?_ ?_
        · refine idxAddr_sl Try.underlying89 (s := 1) size32 i rfl (by omega) (o' := o0 + i) (by omega) ?_
          refine H.loadSl (i := i) ha aggrow _ rfl hget ?_
          exact ⟨(), ⟨rfl, trivial⟩, H⟩
        rintro ⟨⟩ u w6 H1
        replace H : Hp _ _ _ _ _ := H1
        clear H1
        refine cut_rule (γ := Unit) _ rfl (fun _ => [(8, .bool false)]) (fun _ w' => Hp.cl H w') ⟨(), ⟨rfl, trivial⟩, H⟩ ?_
        rintro ⟨⟩ u w6 H1
        replace H : Hp _ _ _ _ _ := H1
        clear H1
        refine cut_rule (γ := Unit) _ rfl (fun _ => [(8, .bool (decide (c ∈ x)))]) (fun _ w' => Hp w (fun _ => False) w' [blk g3 91 (mc cols (.slice B hs.length d)), own 32 1 (.slice B hs.length d) hs.length hs, blk g2 91 (mv 0 (.slice none 0 0)).cells, blk g1 91 (mc cols (.slice (some ⟨g0, o0, none⟩) R.length ca))] []) ?_ ?_
        · refine len_sl Try.underlying32 ?_
          refine loop_rule (γ := Nat) _ rfl (fun j => [(23, .int .i64 (j : Int)), (8, .bool (decide (c ∈ x.take j)))]) (fun j w' => j ≤ x.length ∧ Hp w (fun _ => False) w' [blk g3 91 (mc cols (.slice B hs.length d)), own 32 1 (.slice B hs.length d) hs.length hs, blk g2 91 (mv 0 (.slice none 0 0)).cells, blk g1 91 (mc cols (.slice (some ⟨g0, o0, none⟩) R.length ca))] []) (fun j => x.length - j) 0 ⟨rfl, by simp; rfl, trivial⟩ ⟨Nat.zero_le _, H⟩ ?_
          clear H
          rintro j u w7 ⟨hj, H⟩
          replace H : Hp _ _ _ _ _ := H
          refine cond_dec (fun h8 => ?_) (fun h8 => ?_)
          · obtain ⟨k, hk⟩ : ∃ k, x[j]? = some k := ⟨_, List.getElem?_eq_getElem (by omega)⟩
            obtain ⟨g4, o4, rfl⟩ := hsx.A (by omega)
            have hgk : (intsI x)[j]? = some (.int .i64 k) := by rw [intsI, List.getElem?_map, hk]; rfl
            have hsj := mem_snocI c hk
            refine cut_rule (γ := Unit) _ rfl (fun _ => [(8, .bool (decide (c ∈ x.take (j + 1))))]) (fun _ w' => Hp.cl H w') ?_ ?_
            · refine cut_rule (γ := Unit) _ rfl (fun _ => [(10, .int .i64 k)]) (fun _ w' => Hp.cl H w') ?_ ?_
              · refine idxAddr_sl Try.underlying32 (s := 1) size3 j rfl (by omega) (o' := o4 + j) (by omega) ?_
                refine H.loadSl (i := j) hsx agg3 _ rfl hgk ?_
                exact ⟨(), ⟨rfl, trivial⟩, H⟩
              rintro ⟨⟩ u w8 H1
              replace H : Hp _ _ _ _ _ := H1
              clear H1
              rw [hsj]
              generalize decide (c ∈ x.take j) = b0
              refine cond_split (fun h5 => ?_) (fun h5 => ?_)
              · refine cond_yes (by assumption) ?_
                iterate 2 refine cond_yes (by assumption) ?_
                exact ⟨(), ⟨by rw [h5]; rfl, trivial⟩, H⟩
              · refine cond_no (by assumption) ?_
                iterate 2 refine cond_no (by assumption) ?_
                exact ⟨(), ⟨by rw [h5, Bool.false_or, BEq.comm]; rfl, trivial⟩, H⟩
            · rintro ⟨⟩ u w8 H1
              exact ⟨j + 1, by show x.length - (j + 1) < x.length - j; omega, ⟨up (by omega), rfl, trivial⟩, by show j + 1 ≤ x.length; omega, H1⟩
          · have e : x.take j = x := List.take_of_length_le (by omega)
            exact ⟨(), ⟨congrArg (fun l : List Int => Value.bool (decide (c ∈ l))) e, trivial⟩, H⟩
        clear H
        rintro ⟨⟩ u w7 H
        replace H : Hp _ _ _ _ _ := H
        refine cond_split (fun hb => ?_) (fun hb => ?_)
        · rw [if_neg (by simpa using hb)] at hsn
          refine fieldAddr_by (fa91_1 _) ?_
          refine H.load 0 rfl agg89 rfl ?_
          refine H.buildOne T89 rfl ?_ 
          clear H 
          intro g5 w8 H
          refine H.appendOne 1 T89 rfl rfl (by omega) (by omega) ?_
          clear H
          intro B2 d2 w9 H
          refine fieldAddr_by (fa91_1 _) ?_
          refine H.store 0 rfl size89 (by show 1 < 2; decide) rfl ?_
          clear H
          intro w10 H
          have hli : hs.length + 1 = (hs ++ [Value.slice Bx x.length cx]).length := by simp
          rw [hli] at H
          exact ⟨(B2, d2, hs ++ [Value.slice Bx x.length cx]), trivial, by rw [hsn]; exact hhs.snoc hrv, H⟩
        · rw [if_pos (by simpa using hb), List.append_nil] at hsn
          exact ⟨(B, d, hs), trivial, by rw [hsn]; exact hhs, H⟩
      · clear H hhs
        rintro ⟨B2, d2, hs2⟩ u w6 ⟨hhs, H⟩
        exact ⟨(i + 1, B2, d2, hs2), by show R.length - (i + 1) < R.length - i; omega, ⟨up (by omega), trivial⟩, ⟨by show i + 1 ≤ R.length; omega, hhs⟩, H⟩
    · have : i = R.length := by omega
      subst this
      rw [List.take_length] at hhs
      exact ⟨(B, d, hs), trivial, hhs, H⟩
  clear H
  rintro ⟨B, d, hs⟩ u w4 ⟨hhs, H⟩
  replace H : Hp _ _ _ _ _ := H
  refine H.loadAll 0 rfl agg91 size91 ?_
  refine H.storeAll 2 rfl size91 rfl (fun v hv => mc_one v hv) ?_ 
  clear H 
  intro w5 H
  refine H.loadAll 2 rfl agg91 size91 ?_
  refine ⟨rfl, ?_⟩
  exact ⟨_, rfl, newM_old H 1 rfl hhs hS⟩
theorem ent192 : enters Try.prog 192 = true := by kernel_rfl
theorem c192 (n : Nat) (T : List Int) (A : Option Addr) (ca : Nat) (w : World) (hn : n ≤ 1000000000) (hl : T.length ≤ 1000000000) (hs : Sl w (.slice A T.length ca) 1 T.length (intsI T)) :
    Fun Try.prog 192 [.slice A T.length ca, .int .i64 (n : Int)] w fun v w' => ∃ B d, v = .slice B (risen n T).length d ∧ NewR w w' (own 3 1 (.slice B (risen n T).length d) (risen n T).length (intsI (risen n T))) := by
  refine fun_of_W (N := 33) Try.func192 ent192 rfl rfl rfl (by simp) ?_
  have H := Hp.start0 w
  refine cut_rule (γ := Unit) _ rfl (fun _ => []) (fun _ w' => Hp w (fun _ => False) w' [] []) ⟨(), trivial, H⟩ ?_
  clear H
  rintro ⟨⟩ u w0 H
  replace H : Hp _ _ _ _ _ := H
  refine cut_rule (γ := Nat) _ rfl (fun r => [(5, .map (some r))]) (fun r w' => Hp w (fun _ => False) w' [mapR kaI vbB r []] []) ?_ ?_
  · refine H.makeMap kaI vbB ?_
    clear H
    intro r w4 H
    exact ⟨r, ⟨rfl, trivial⟩, H⟩
  clear H
  rintro r u w3 H
  replace H : Hp _ _ _ _ _ := H
  refine cut_rule (γ := List (Int × Bool)) _ rfl (fun _ => []) (fun l w' => lOk l T ∧ Hp w (fun _ => False) w' [mapR kaI vbB r l] []) ?_ ?_
  · refine len_sl Try.underlying32 ?_
    refine loop_rule (γ := Nat × List (Int × Bool)) _ rfl (fun (j, _) => [(13, .int .i64 (j : Int))]) (fun (j, l) w' => (j ≤ T.length ∧ lOk l (T.take j)) ∧ Hp w (fun _ => False) w' [mapR kaI vbB r l] []) (fun (j, _) => T.length - j) (0, []) ⟨rfl, trivial⟩ ⟨⟨Nat.zero_le _, fun c => rfl⟩, H⟩ ?_
    clear H
    rintro ⟨j, l⟩ u w8 ⟨⟨hj, hlk⟩, H⟩
    replace H : Hp _ _ _ _ _ := H
    refine cond_dec (fun h8 => ?_) (fun h8 => ?_)
    · obtain ⟨k, hk⟩ : ∃ k, T[j]? = some k := ⟨_, List.getElem?_eq_getElem (by omega)⟩
      obtain ⟨g2, o2, rfl⟩ := hs.A (by omega)
      have hgk : (intsI T)[j]? = some (.int .i64 k) := by rw [intsI, List.getElem?_map, hk]; rfl
      have htk : T.take (j + 1) = T.take j ++ [k] := by rw [List.take_add_one, hk]; rfl
      refine idxAddr_sl Try.underlying32 (s := 1) size3 j rfl (by omega) (o' := o2 + j) (by omega) ?_
      refine H.loadSl (i := j) hs agg3 _ rfl hgk ?_
      refine H.mapSet 0 rfl W210 k true ?_
      clear H
      intro w9 H
      exact ⟨(j + 1, aset l k true), by show T.length - (j + 1) < T.length - j; omega, ⟨up (by omega), trivial⟩, ⟨by show j + 1 ≤ T.length; omega, by rw [htk]; exact hlk.add k⟩, H⟩
    · have e : T.take j = T := List.take_of_length_le (by omega)
      rw [e] at hlk
      exact ⟨l, trivial, hlk, H⟩
  clear H
  rintro l u w4 ⟨hlk, H⟩
  replace H : Hp _ _ _ _ _ := H
  refine cut_rule (γ := Unit) _ rfl (fun _ => [(8, .slice none 0 0)]) (fun _ w' => Hp w (fun _ => False) w' [mapR kaI vbB r l] []) ⟨(), ⟨rfl, trivial⟩, H⟩ ?_
  clear H
  rintro ⟨⟩ u w5 H
  replace H : Hp _ _ _ _ _ := H
  have H2 := H.ownNil 3 1
  clear H
  have hrl : ∀ c, (risen c T).length ≤ c := fun c => risen_len_le c T
  refine cut_rule (γ := Option Addr × Nat) _ rfl (fun (B, d) => [(8, .slice B (risen n T).length d)])
    (fun (B, d) w' => Hp w (fun _ => False) w' [own 3 1 (.slice B (risen n T).length d) (risen n T).length (intsI (risen n T)), mapR kaI vbB r l] []) ?_ ?_
  · refine loop_rule (γ := Nat × Option Addr × Nat) _ rfl (fun (c, B, d) => [(21, .int .i64 (c : Int)), (8, .slice B (risen c T).length d)])
      (fun (c, B, d) w' => c ≤ n ∧ Hp w (fun _ => False) w' [own 3 1 (.slice B (risen c T).length d) (risen c T).length (intsI (risen c T)), mapR kaI vbB r l] [])
      (fun (c, _) => n - c) (0, none, 0) ⟨rfl, rfl, trivial⟩ ⟨Nat.zero_le _, H2⟩ ?_
    clear H2
    rintro ⟨c, B, d⟩ u w9 ⟨hc, H⟩
    replace H : Hp _ _ _ _ _ := H
    refine cond_dec (fun h7 => ?_) (fun h7 => ?_)
    · have hsn := risen_succ c T
      have hcl := hrl c
      refine cut_rule (γ := Option Addr × Nat) _ rfl (fun (B, d) => [(8, .slice B (risen (c + 1) T).length d)])
        (fun (B, d) w' => Hp w (fun _ => False) w' [own 3 1 (.slice B (risen (c + 1) T).length d) (risen (c + 1) T).length (intsI (risen (c + 1) T)), mapR kaI vbB r l] []) ?_ ?_
      · refine cut_rule (γ := Unit) _ rfl (fun _ => [(9, .int .i64 (c : Int))]) (fun _ w' => Hp.cl H w') ⟨(), ⟨rfl, trivial⟩, H⟩ ?_
        rintro ⟨⟩ u w10 H1
        replace H : Hp _ _ _ _ _ := H1
        clear H1
        refine H.lookup 1 rfl W210 (c : Int) ?_
        rw [hlk.get]
        refine cond_dec (fun hm => ?_) (fun hm => ?_)
        · rw [if_pos hm] at hsn
          refine H.buildOne T32 rfl ?_
          clear H
          intro g11 w11 H
          refine H.appendOne 0 T32 rfl rfl (by omega) (by omega) ?_
          clear H
          intro B2 d2 w12 H
          have e1 : (risen (c + 1) T).length = (risen c T).length + 1 := by rw [hsn]; simp
          have e2 : intsI (risen (c + 1) T) = intsI (risen c T) ++ [.int .i64 (c : Int)] := by rw [hsn, intsI_snoc]
          exact ⟨(B2, d2), ⟨by rw [e1]; rfl, trivial⟩, by rw [e1, e2]; exact H⟩
        · rw [if_neg hm, List.append_nil] at hsn
          exact ⟨(B, d), ⟨by rw [hsn]; rfl, trivial⟩, by rw [hsn]; exact H⟩
      · clear H
        rintro ⟨B2, d2⟩ u w10 H
        replace H : Hp _ _ _ _ _ := H
        exact ⟨(c + 1, B2, d2), by show n - (c + 1) < n - c; omega, ⟨up (by omega), rfl, trivial⟩, by show c + 1 ≤ n; omega, H⟩
    · have : c = n := by omega
      subst this
      exact ⟨(B, d), ⟨rfl, trivial⟩, H⟩
  · clear H2
    rintro ⟨B, d⟩ u w9 H
    replace H : Hp _ _ _ _ _ := H
    exact ⟨B, d, rfl, (H.only).out⟩
end Go.Proofs.Ytjebpngdinbckaa
end

section
/- The search: less. -/
namespace Go.Proofs.Ytjebpngdinbckaa
open Go.Dk
attribute [local irreducible] IntKind.wrap

theorem drop_len (R : Mat) (c : Int) : (dropC R c).length = R.length := by unfold dropC; rw [List.length_map]
theorem ent194 : enters Try.prog 194 = true := by kernel_rfl
theorem c194 (cols : Int) (R : Mat) (c : Int) (v1 : Value) (S : Nat → Prop) (w : World) (hl : R.length ≤ 1000000000) (hlr : ∀ r ∈ R, r.length ≤ 1000000000) (h1 : matOk S v1 R w) (hS : ∀ g, S g → g < w.heap.size) :
    Fun Try.prog 194 [mv cols v1, .int .i64 c] w fun v w' => ∃ v', v = mv cols v' ∧ NewM S w w' v' (dropC R c) := by
  refine fun_of_W (N := 43) Try.func194 ent194 rfl rfl rfl (by simp) ?_
  have H := startM h1 hS
  have h1' : MatAt w v1 R := MatR.mono h1 hS
  obtain ⟨A, ca, va, rfl, ha, hra⟩ := h1'.openM
  refine H.box 91 (mv _ _) (cs := mc _ _) rfl ?_
  clear H
  intro g1 w1 H
  refine H.alloc 91 zero91 rfl ?_
  clear H
  intro g2 w2 H
  refine cut_rule (γ := Nat) _ rfl (fun g3 => [(5, .pointer (some ⟨g3, 0, none⟩))]) (fun g3 w' => Hp w (fun _ => False) w' [blk g3 91 (mc cols (.slice none 0 0)), blk g2 91 (mv 0 (.slice none 0 0)).cells, blk g1 91 (mc cols (.slice A R.length ca))] [MatR S (.slice A R.length ca) R]) ?_ ?_
  · refine fieldAddr_by (fa91_0 _) ?_
    refine H.load 1 rfl agg3 rfl ?_
    refine build91a ?_
    refine H.alloc 91 zero91 rfl ?_ 
    clear H 
    intro g3 w3 H
    refine H.storeAll 0 rfl size91 rfl (fun v hv => mc_one v hv) ?_ 
    clear H 
    intro w7 H
    exact ⟨_, ⟨rfl, trivial⟩, H⟩
  clear H
  rintro g12 u w3 H
  replace H : Hp _ _ _ _ _ := H
  have H2 := ((H.ownNil 32 1).front 1 rfl).noRows
  clear H
  refine cut_rule (γ := Option Addr × Nat × List Value × (Nat → Prop)) _ rfl (fun _ => [])
    (fun (B, d, hs, S') w' => (∀ g, S' g → w.heap.size ≤ g) ∧ Hp w (fun _ => False) w' [blk g12 91 (mc cols (.slice B hs.length d)), own 32 1 (.slice B hs.length d) hs.length hs, blk g2 91 (mv 0 (.slice none 0 0)).cells, blk g1 91 (mc cols (.slice A R.length ca))] [rowsR S' hs (dropC R c), MatR S (.slice A R.length ca) R]) ?_ ?_
  · refine fieldAddr_by (fa91_1 _) ?_
    refine H2.load 3 rfl agg89 rfl ?_
    refine len_sl Try.underlying89 ?_
    refine loop_rule (γ := Nat × Option Addr × Nat × List Value × (Nat → Prop)) _ rfl (fun (i, _) => [(17, .int .i64 (i : Int))])
      (fun (i, B, d, hs, S') w' => (i ≤ R.length ∧ hs.length = i ∧ ∀ g, S' g → w.heap.size ≤ g) ∧ Hp w (fun _ => False) w' [blk g12 91 (mc cols (.slice B hs.length d)), own 32 1 (.slice B hs.length d) hs.length hs, blk g2 91 (mv 0 (.slice none 0 0)).cells, blk g1 91 (mc cols (.slice A R.length ca))] [rowsR S' hs (dropC (R.take i) c), MatR S (.slice A R.length ca) R])
      (fun (i, _) => R.length - i) (0, none, 0, [], fun _ => False) ⟨rfl, trivial⟩ ⟨⟨Nat.zero_le _, rfl, fun g h => h.elim⟩, H2⟩ ?_
    clear H2
    rintro ⟨i, B, db, hs, S'⟩ u w13 ⟨⟨hi, hhl, hS'⟩, H⟩
    replace H : Hp _ _ _ _ _ := H
    refine cond_dec (fun h20 => ?_) (fun h20 => ?_)
    · obtain ⟨x, hx⟩ : ∃ x, R[i]? = some x := ⟨_, List.getElem?_eq_getElem (by omega)⟩
      obtain ⟨g0, o0, rfl⟩ := ha.A (by omega)
      obtain ⟨Bx, cx, hget, hsx⟩ := hra i x hx
      have hxl := hlr x (List.mem_of_getElem? hx)
      refine cut_rule (γ := Option Addr × Nat × List Value × (Nat → Prop)) _ rfl (fun _ => [])
        (fun (B, d, hs, S') w' => (hs.length = i + 1 ∧ ∀ g, S' g → w.heap.size ≤ g) ∧ Hp w (fun _ => False) w' [blk g12 91 (mc cols (.slice B hs.length d)), own 32 1 (.slice B hs.length d) hs.length hs, blk g2 91 (mv 0 (.slice none 0 0)).cells, blk g1 91 (mc cols (.slice (some ⟨g0, o0, none⟩) R.length ca))] [rowsR S' hs (dropC (R.take (i + 1)) c), MatR S (.slice (some ⟨g0, o0, none⟩) R.length ca) R]) ?_ ?_
      · refine cut_rule (γ := Unit) _ rfl (fun _ => [(7, .slice Bx x.length cx)]) (fun _ w' => Hp.cl H w') ?_ ?_
        · refine idxAddr_sl Try.underlying89 (s := 1) size32 i rfl (by omega) (o' := o0 + i) (by omega) ?_
          refine H.loadSl (i := i) ha aggrow _ rfl hget ?_
          exact ⟨(), ⟨rfl, trivial⟩, H⟩
        rintro ⟨⟩ u w14 H1
        replace H : Hp _ _ _ _ _ := H1
        clear H1
        refine cut_rule (γ := Unit) _ rfl (fun _ => [(8, .slice none 0 0)]) (fun _ w' => Hp.cl H w') ⟨(), ⟨rfl, trivial⟩, H⟩ ?_
        rintro ⟨⟩ u w14 H1
        replace H : Hp _ _ _ _ _ := H1
        clear H1
        have H2 := H.ownNil 3 1
        clear H
        refine cut_rule (γ := Option Addr × Nat) _ rfl (fun (B2, d2) => [(8, .slice B2 (x.filter fun k => k != c).length d2)])
          (fun (B2, d2) w' => Hp w (fun _ => False) w' [own 3 1 (.slice B2 (x.filter fun k => k != c).length d2) (x.filter fun k => k != c).length (intsI (x.filter fun k => k != c)), blk g12 91 (mc cols (.slice B hs.length db)), own 32 1 (.slice B hs.length db) hs.length hs, blk g2 91 (mv 0 (.slice none 0 0)).cells, blk g1 91 (mc cols (.slice (some ⟨g0, o0, none⟩) R.length ca))] [rowsR S' hs (dropC (R.take i) c), MatR S (.slice (some ⟨g0, o0, none⟩) R.length ca) R]) ?_ ?_
        · refine len_sl Try.underlying32 ?_
          refine loop_rule (γ := Nat × Option Addr × Nat) _ rfl (fun (j, B2, d2) => [(23, .int .i64 (j : Int)), (8, .slice B2 ((x.take j).filter fun k => k != c).length d2)])
            (fun (j, B2, d2) w' => j ≤ x.length ∧ Hp w (fun _ => False) w' [own 3 1 (.slice B2 ((x.take j).filter fun k => k != c).length d2) ((x.take j).filter fun k => k != c).length (intsI ((x.take j).filter fun k => k != c)), blk g12 91 (mc cols (.slice B hs.length db)), own 32 1 (.slice B hs.length db) hs.length hs, blk g2 91 (mv 0 (.slice none 0 0)).cells, blk g1 91 (mc cols (.slice (some ⟨g0, o0, none⟩) R.length ca))] [rowsR S' hs (dropC (R.take i) c), MatR S (.slice (some ⟨g0, o0, none⟩) R.length ca) R])
            (fun (j, _) => x.length - j) (0, none, 0) ⟨rfl, rfl, trivial⟩ ⟨Nat.zero_le _, H2⟩ ?_
          clear H2
          rintro ⟨j, B2, d2⟩ u w15 ⟨hj, H⟩
          replace H : Hp _ _ _ _ _ := H
          refine cond_dec (fun h21 => ?_) (fun h21 => ?_)
          · obtain ⟨k, hk⟩ : ∃ k, x[j]? = some k := ⟨_, List.getElem?_eq_getElem (by omega)⟩
            obtain ⟨g3, o3, rfl⟩ := hsx.A (by omega)
            have hgk : (intsI x)[j]? = some (.int .i64 k) := by rw [intsI, List.getElem?_map, hk]; rfl
            have hsn := filt_snoc (fun k => k != c) hk
            have hfl := List.length_filter_le (fun k => k != c) (x.take j)
            rw [List.length_take] at hfl
            refine cut_rule (γ := Option Addr × Nat) _ rfl (fun (B2, d2) => [(8, .slice B2 ((x.take (j + 1)).filter fun k => k != c).length d2)])
              (fun (B2, d2) w' => Hp w (fun _ => False) w' [own 3 1 (.slice B2 ((x.take (j + 1)).filter fun k => k != c).length d2) ((x.take (j + 1)).filter fun k => k != c).length (intsI ((x.take (j + 1)).filter fun k => k != c)), blk g12 91 (mc cols (.slice B hs.length db)), own 32 1 (.slice B hs.length db) hs.length hs, blk g2 91 (mv 0 (.slice none 0 0)).cells, blk g1 91 (mc cols (.slice (some ⟨g0, o0, none⟩) R.length ca))] [rowsR S' hs (dropC (R.take i) c), MatR S (.slice (some ⟨g0, o0, none⟩) R.length ca) R]) ?_ ?_
            · refine cut_rule (γ := Unit) _ rfl (fun _ => [(10, .int .i64 k)]) (fun _ w' => Hp.cl H w') ?_ ?_
              · refine idxAddr_sl Try.underlying32 (s := 1) size3 j rfl (by omega) (o' := o3 + j) (by omega) ?_
                refine H.loadSl (i := j) hsx agg3 _ rfl hgk ?_
                exact ⟨(), ⟨rfl, trivial⟩, H⟩
              rintro ⟨⟩ u w16 H1
              replace H : Hp _ _ _ _ _ := H1
              clear H1
              refine cond_split (fun hb => ?_) (fun hb => ?_)
              · rw [if_pos hb] at hsn
                refine H.buildOne T32 rfl ?_
                clear H
                intro g7 w16 H
                refine H.appendOne 0 T32 rfl rfl (by omega) (by omega) ?_
                clear H
                intro B3 d3 w17 H
                have e1 : ((x.take (j + 1)).filter fun k => k != c).length = ((x.take j).filter fun k => k != c).length + 1 := by rw [hsn]; simp
                have e2 : intsI ((x.take (j + 1)).filter fun k => k != c) = intsI ((x.take j).filter fun k => k != c) ++ [.int .i64 k] := by rw [hsn, intsI_snoc]
                exact ⟨(B3, d3), ⟨by rw [e1]; rfl, trivial⟩, by rw [e1, e2]; exact H⟩
              · rw [if_neg (by rw [hb]; decide), List.append_nil] at hsn
                exact ⟨(B2, d2), ⟨by rw [hsn]; rfl, trivial⟩, by rw [hsn]; exact H⟩
            · clear H
              rintro ⟨B3, d3⟩ u w16 H
              exact ⟨(j + 1, B3, d3), by show x.length - (j + 1) < x.length - j; omega, ⟨up (by omega), rfl, trivial⟩, by show j + 1 ≤ x.length; omega, H⟩
          · have e : x.take j = x := List.take_of_length_le (by omega)
            rw [e] at H
            exact ⟨(B2, d2), ⟨congrArg (fun l : List Int => Value.slice B2 (l.filter fun k => k != c).length d2) e, trivial⟩, H⟩
        · clear H2
          rintro ⟨B2, d2⟩ u w15 H
          replace H : Hp _ _ _ _ _ := H
          refine fieldAddr_by (fa91_1 _) ?_
          refine H.load 1 rfl agg89 rfl ?_
          refine H.buildOne T89 rfl ?_
          clear H
          intro g7 w16 H
          refine H.appendOne 2 T89 rfl rfl (by omega) (by omega) ?_
          clear H
          intro B3 d3 w17 H
          refine fieldAddr_by (fa91_1 _) ?_
          refine H.store 1 rfl size89 (by show 1 < 2; decide) rfl ?_
          clear H
          intro w18 H
          have e0 : hs.length + 1 = (hs ++ [Value.slice B2 (x.filter fun k => k != c).length d2]).length := by simp
          obtain ⟨S2, H3, hS2⟩ := H.addRow hS'
          rw [← drop_snoc hx] at H3
          rw [e0] at H3
          exact ⟨(B3, d3, _, S2), trivial, ⟨by rw [← e0]; omega, hS2⟩, H3⟩
      · clear H
        rintro ⟨B3, d3, hs3, S2⟩ u w14 ⟨⟨hn1, hS2⟩, H⟩
        exact ⟨(i + 1, B3, d3, hs3, S2), by show R.length - (i + 1) < R.length - i; omega, ⟨up (by omega), trivial⟩, ⟨by show i + 1 ≤ R.length; omega, hn1, hS2⟩, H⟩
    · have e : R.take i = R := List.take_of_length_le (by omega)
      rw [e] at H
      exact ⟨(B, db, hs, S'), trivial, hS', H⟩
  · clear H2
    rintro ⟨B, db, hs, S'⟩ u w13 ⟨hS', H⟩
    replace H : Hp _ _ _ _ _ := H
    refine H.loadAll 0 rfl agg91 size91 ?_
    refine H.storeAll 2 rfl size91 rfl (fun v hv => mc_one v hv) ?_
    clear H
    intro w14 H
    refine H.loadAll 2 rfl agg91 size91 ?_
    refine ⟨rfl, ?_⟩
    exact ⟨_, rfl, newM_of H 1 rfl (H.ro 0 rfl) fun g hg => ⟨H.rlt _ (.head _) g hg, .inl (hS' g hg)⟩⟩
end Go.Proofs.Ytjebpngdinbckaa
end

import Derived.Test.YtjebpngdinbckaaPart2
import Derived.Test.YtjebpngdinbckaaRows
import Derived.WalkKit
import Derived.ProofKit
import Derived.OpenShut
import Derived.Below
import Derived.ChangeSame
import Derived.Carry
import Derived.ChangeMaps5
/- Lemmas, part 3: what the proof of the row uses. -/
section
/- The statements of chapter 1. -/
namespace Go.Proofs.Ytjebpngdinbckaa
open Go.Dk
attribute [local irreducible] IntKind.wrap

theorem pts_le (n : Nat) : (pts n).length ≤ 256 := by unfold pts; exact Nat.le_trans (List.length_filter_le _ _) (by simp)
theorem withI_lt {n : Nat} (hn : n < 2 ^ 256) (p : Int) : withI n p < 2 ^ 256 := by
  cases h : mayB p with
  | true =>
    have h' : 0 ≤ p ∧ p < 256 := by simpa [mayB] using h
    simp only [withI, h, if_true]
    exact or_lt hn (Nat.pow_lt_pow_right (by decide) (by omega))
  | false => simpa [withI, h] using hn
theorem law3 (n : Nat) (hn : n < 2 ^ 256) (m p : Int) (w : World) : Fun Try.prog 3 [sv n, .int .i64 m, .int .i64 p] w fun v w' => v = .bool true ∧ Same w w' := by
  refine fun_of_W (N := 100) Try.func3 ent3 rfl rfl rfl (by simp) ?_
  have H := Hp.start0 w
  refine H.box 24 (sv n) (cs := sc n) rfl ?_
  intro g1 w1 H
  have hcall : ∃ (s : Nat) (e : Int), Fun Try.prog 37 [.int .i64 m] w1 (fun v w' => v = .tuple #[sv s, .int .i64 e] ∧ Same w1 w') ∧ s < 2 ^ 256 ∧
      ((m < 0 ∨ 8 < m) ∧ s = 0 ∧ e = 1 ∨ (0 ≤ m ∧ m ≤ 8) ∧ s = allN m.toNat ∧ e = 0) := by
    by_cases hm : m < 0 ∨ 8 < m
    · exact ⟨0, 1, c37_no m hm _, by decide, .inl ⟨hm, rfl, rfl⟩⟩
    · obtain ⟨q, rfl⟩ := Int.eq_ofNat_of_zero_le (show 0 ≤ m by omega)
      exact ⟨allN q, 0, c37_yes q (by omega) _, allN_lt _, .inr ⟨by omega, rfl, rfl⟩⟩
  obtain ⟨s, e, hcall, hs, hse⟩ := hcall
  refine call_fn hcall ?_
  rintro v w2 ⟨rfl, hk⟩
  have H := H.same hk
  refine H.alloc 24 (cs := sc 0) zero24 sc_zero ?_
  intro g2 w3 H
  refine H.storeAll 0 rfl size24 rfl (sc_one _) ?_
  intro w4 H
  refine cut_rule (γ := Unit) _ rfl (fun _ => []) (fun _ w' => Hp w (fun _ => False) w' [blk g2 24 (sc s), blk g1 24 (sc n)] []) ?_ ?_
  · refine cond_split (fun h => ?_) (fun h => ?_)
    · have hm : m < 0 := of_decide_eq_true h
      obtain ⟨_, rfl, rfl⟩ : _ ∧ s = 0 ∧ e = 1 := by rcases hse with h | h; exact h; omega
      refine cond_yes h ?_
      refine cond_yes h ?_
      refine cond_yes rfl ?_
      refine H.loadAll 0 rfl agg24 size24 ?_
      refine build24 ?_
      refine bin_neq24 hs (by decide) ?_
      repeat refine cond_no rfl ?_
      exact ⟨(), trivial, H⟩
    · refine cond_no h ?_
      refine cond_no h ?_
      refine cond_split (fun h8 => ?_) (fun h8 => ?_)
      · have hm : 8 < m := of_decide_eq_true h8
        obtain ⟨_, rfl, rfl⟩ : _ ∧ s = 0 ∧ e = 1 := by rcases hse with h | h; exact h; omega
        refine H.loadAll 0 rfl agg24 size24 ?_
        refine build24 ?_
        refine bin_neq24 hs (by decide) ?_
        repeat refine cond_no rfl ?_
        exact ⟨(), trivial, H⟩
      · have h := of_decide_eq_false h
        have h8 := of_decide_eq_false h8
        obtain ⟨q, rfl⟩ := Int.eq_ofNat_of_zero_le (show 0 ≤ m by omega)
        obtain ⟨_, rfl, rfl⟩ : _ ∧ s = allN q ∧ e = 0 := by rcases hse with h | h; omega; exact h
        refine draw_mix (fun w' => Hp w (fun _ => False) w' [blk g2 24 (sc (allN q)), blk g1 24 (sc n)] []) fol (by kernel_rfl) (H.same (Keeps.drew _)) ?_
        refine quiet (sv (allN q)) (fun w H => H.loadAll 0 rfl agg24 size24 ⟨rfl, rfl⟩) ?_
        refine call_fn (c39 q (by omega) _) ?_
        rintro v w5 ⟨A, c, rfl, hn⟩
        have H := (H.same (Keeps.drew _))
        refine ⟨.inl (H.same hn.keeps), ?_⟩
        have H := H.addNew hn
        have hall : (allFlags q).length = 256 := by simp [allFlags]
        refine call_fn (c38 (allFlags q) hall A c _ (own_Sl (H.get 0 rfl))) ?_
        rintro v w6 ⟨rfl, hk⟩
        have H := H.forget.same hk
        refine ⟨.inl H, ?_⟩
        rw [flags_all]
        refine quiet (.bool (allN q != allN q)) (fun w _ => bin_neq24 (allN_lt _) (allN_lt _) ⟨rfl, rfl⟩) ?_
        rw [bne_self_eq_false]
        repeat refine cond_no rfl ?_
        refine ⟨(), trivial, H⟩
  · intro _ u w5 H
    clear hcall hse
    refine H.loadAll 1 rfl agg24 size24 ?_
    refine call_fn (c40 n _) ?_
    rintro v w6 ⟨A, c, rfl, hnew⟩
    have H := H.addNew hnew
    clear hnew
    refine cut_rule (γ := List Bool) _ rfl (fun _ => []) (fun l w' => (ofFlags l = withI n p ∧ l.length = 256) ∧ Hp w (fun _ => False) w' [own 4 1 (.slice A 256 c) 256 (bls l), blk g2 24 (sc s), blk g1 24 (sc n)] []) ?_ ?_
    · cases hp : mayB p with
      | true =>
        have hp' : 0 ≤ p ∧ p < 256 := by simpa [mayB] using hp
        obtain ⟨q, rfl⟩ := Int.eq_ofNat_of_zero_le hp'.1
        have hq : q < 256 := by omega
        repeat refine cond_yes (decide_eq_true (by omega)) ?_
        obtain ⟨g, rfl⟩ := H.ownA 0 rfl (by omega)
        refine idxAddr_sl Try.underlying29 size4 q rfl hq (o' := q) (by omega) ?_
        refine H.storeOwn 0 rfl size4 ?_ rfl ?_
        · rw [H.ownLen 0 rfl]; omega
        intro w7 H
        refine ⟨(flagsN n).set q true, trivial, ⟨?_, by rw [List.length_set]; exact flagsTo_length n 256⟩, ?_⟩
        · rw [flags_with hn hq]; simp [withI, hp]
        · have e : (bls (flagsN n)).set q (.bool true) = bls ((flagsN n).set q true) := by rw [bls, bls, List.map_set]
          rw [← e]; exact H
      | false =>
        have hend : ∃ l : List Bool, (ofFlags l = withI n p ∧ l.length = 256) ∧ Hp w (fun _ => False) w6 [own 4 1 (.slice A 256 c) 256 (bls l), blk g2 24 (sc s), blk g1 24 (sc n)] [] :=
          ⟨flagsN n, ⟨by rw [flags_set hn]; simp [withI, hp], flagsTo_length n 256⟩, H⟩
        obtain ⟨l, hl, H⟩ := hend
        have hp' : p < 0 ∨ 256 ≤ p := by simp [mayB] at hp; omega
        refine cond_split (fun h => ?_) (fun h => ?_)
        · have h0 := of_decide_eq_true h
          refine cond_yes h ?_
          refine cond_yes h ?_
          refine cond_no (by simp; omega) ?_
          exact ⟨l, trivial, hl, H⟩
        · refine cond_no h ?_
          refine cond_no h ?_
          refine cond_no rfl ?_
          exact ⟨l, trivial, hl, H⟩
    · rintro l u2 w7 ⟨⟨hl, hll⟩, H⟩
      refine draw_mix (fun w' => Hp w (fun _ => False) w' [own 4 1 (.slice A 256 c) 256 (bls l), blk g2 24 (sc s), blk g1 24 (sc n)] []) fol (by kernel_rfl) (H.same (Keeps.drew _)) ?_
      have H := (H.same (Keeps.drew _))
      refine quiet (sv n) (fun w H => H.loadAll 2 rfl agg24 size24 ⟨rfl, rfl⟩) ?_
      refine call_fn (c41 n _) ?_
      rintro v w8 ⟨A1, c1, rfl, hnew⟩
      refine ⟨.inl (H.same hnew.keeps), ?_⟩
      have H := H.addNew hnew
      clear hnew
      refine quiet (sv n) (fun w H => H.loadAll 2 rfl agg24 size24 ⟨rfl, rfl⟩) ?_
      refine call_fn (c42 n _) ?_
      rintro v w9 ⟨A2, c2, rfl, hnew⟩
      refine ⟨.inl (H.forget.same hnew.keeps), ?_⟩
      have H := H.addNew hnew
      clear hnew
      refine len_sl Try.underlying32 ?_
      refine len_sl Try.underlying32 ?_
      repeat refine cond_no (by simp) ?_
      refine H.loadAll 4 rfl agg24 size24 ?_
      repeat refine cond_no (by simp) ?_
      refine call_fn (c43 n hn _) ?_
      rintro v w10 ⟨rfl, hk⟩
      have H := H.same hk
      repeat refine cond_no (by simp) ?_
      refine len_sl Try.underlying32 ?_
      repeat refine cond_no (by simp [pts_length hn]) ?_
      have hple := pts_le n
      refine loop_rule (γ := Nat) _ rfl (fun i => [(12, .int .i64 (i : Int))])
        (fun i w' => i ≤ (pts n).length ∧ Hp w (fun _ => False) w' [own 3 1 (.slice A2 (pts n).length c2) (pts n).length (ints (pts n)), own 3 1 (.slice A1 (pts n).length c1) (pts n).length (ints (pts n)), own 4 1 (.slice A 256 c) 256 (bls l), blk g2 24 (sc s), blk g1 24 (sc n)] [])
        (fun i => (pts n).length - i) 0 ⟨rfl, trivial⟩ ⟨by omega, H⟩ ?_
      clear H
      rintro i u3 w11 ⟨hi, H⟩
      refine len_sl Try.underlying32 ?_
      refine cond_split (fun h => ?_) (fun h => ?_)
      · have hi4 : i < (pts n).length := by have := of_decide_eq_true h; omega
        obtain ⟨ga, rfl⟩ := H.ownA 0 rfl (by omega)
        obtain ⟨gb, rfl⟩ := H.ownA 1 rfl (by omega)
        refine draw_mix (fun w' => Hp w (fun _ => False) w' [own 3 1 (.slice (some ⟨ga, 0, none⟩) (pts n).length c2) (pts n).length (ints (pts n)), own 3 1 (.slice (some ⟨gb, 0, none⟩) (pts n).length c1) (pts n).length (ints (pts n)), own 4 1 (.slice A 256 c) 256 (bls l), blk g2 24 (sc s), blk g1 24 (sc n)] []) fol (by kernel_rfl) (H.same (Keeps.drew _)) ?_
        refine quiet (.pointer (some ⟨gb, i, none⟩)) (fun w _ => idxAddr_sl Try.underlying32 size3 i rfl hi4 (o' := i) (by omega) ⟨rfl, rfl⟩) ?_
        refine quiet (.int .i64 ((pts n)[i] : Int)) (fun w H => H.loadOwn 1 rfl agg3 (ints_get hi4) ⟨rfl, rfl⟩) ?_
        refine quiet (.pointer (some ⟨ga, i, none⟩)) (fun w _ => idxAddr_sl Try.underlying32 size3 i rfl hi4 (o' := i) (by omega) ⟨rfl, rfl⟩) ?_
        refine quiet (.int .i64 ((pts n)[i] : Int)) (fun w H => H.loadOwn 0 rfl agg3 (ints_get hi4) ⟨rfl, rfl⟩) ?_
        refine cond_no (by simp) ?_
        refine ⟨i + 1, by omega, ⟨up (by omega), trivial⟩, by omega, H.same (Keeps.drew _)⟩
      · refine draw_mix (fun w' => Hp w (fun _ => False) w' [own 3 1 (.slice A2 (pts n).length c2) (pts n).length (ints (pts n)), own 3 1 (.slice A1 (pts n).length c1) (pts n).length (ints (pts n)), own 4 1 (.slice A 256 c) 256 (bls l), blk g2 24 (sc s), blk g1 24 (sc n)] []) fol (by kernel_rfl) (H.same (Keeps.drew _)) ?_
        have H := (H.same (Keeps.drew _))
        refine quiet (sv n) (fun w H => H.loadAll 4 rfl agg24 size24 ⟨rfl, rfl⟩) ?_
        refine call_fn (c44 n p _) ?_
        rintro v w12 ⟨rfl, hk⟩
        have H := H.same hk
        refine ⟨.inl H, ?_⟩
        refine quiet (sv n) (fun w H => H.loadAll 4 rfl agg24 size24 ⟨rfl, rfl⟩) ?_
        refine call_fn (c45 n p _) ?_
        rintro v w13 ⟨rfl, hk⟩
        have H := H.same hk
        refine ⟨.inl H, ?_⟩
        refine quiet (.bool (hasI n p == hasI n p)) (fun w _ => bin_eql_bool Try.underlying4 ⟨rfl, rfl⟩) ?_
        repeat refine cond_yes (beq_self_eq_true _) ?_
        refine quiet (sv n) (fun w H => H.loadAll 4 rfl agg24 size24 ⟨rfl, rfl⟩) ?_
        repeat refine cond_yes (beq_self_eq_true _) ?_
        refine call_fn (c46 n p _) ?_
        rintro v w14 ⟨rfl, hk⟩
        have H := H.same hk
        refine ⟨.inl H, ?_⟩
        repeat refine cond_yes (beq_self_eq_true _) ?_
        refine call_fn (c38 l hll A c _ (own_Sl (H.get 2 rfl))) ?_
        rintro v w15 ⟨rfl, hk⟩
        have H := H.same hk
        refine ⟨.inl H, ?_⟩
        rw [hl]
        repeat refine cond_yes (beq_self_eq_true _) ?_
        refine quiet (.bool (withI n p == withI n p)) (fun w _ => bin_eql24 (withI_lt hn p) (withI_lt hn p) ⟨rfl, rfl⟩) ?_
        repeat refine cond_yes (beq_self_eq_true _) ?_
        refine call_fn (c47 _) ?_
        rintro v w16 ⟨rfl, hk⟩
        have H := H.same hk
        refine ⟨.inl H, ?_⟩
        repeat refine cond_yes (beq_self_eq_true _) ?_
        exact ⟨rfl, H.keeps⟩
end Go.Proofs.Ytjebpngdinbckaa
end

section
/- A law's last step, once for all laws: true, and all that was there stays as it was. -/
namespace Go.Dk
open Go.ChangeShapes Go.WideShapes Go.ChangeAt Go.RowKit

section
variable {H : Type} {enc : TypeId × Value → H} {P : Program}
theorem Keeps.below {w w' : World} (h : Same w w') : Below w.heap.size w w' :=
  ⟨h.os, h.tape, h.output, h.size, fun k hk => h.old k hk (fun h => h)⟩

theorem trodAll_stays (hl : laidOutB P = true) {W W' : World} {sp : Nat → Bool} (hb : Below W.heap.size W W') : ∀ (ts : List TypeId) (vs : List Value) (ds : List (DataW H)) (ps : List MemPlace),
    (∀ t ∈ ts, P.readableRec t = true ∧ t < P.types.size) → DataW.TrodAll enc P W 0 (fun _ => true) true ts vs ds ps → (∀ x ∈ ps, x.block < W.heap.size) → (∀ x ∈ ps, sp x.block = true) → DataW.TrodAll enc P W' 0 sp true ts vs ds ps := by
  intro ts
  induction ts with
  | nil =>
    intro vs ds ps _ h _ _
    obtain ⟨rfl, rfl, rfl⟩ := trodAll_nil h
    exact rfl
  | cons t ts ih =>
    intro vs ds ps ht h hlt hsp
    obtain ⟨v, vs, d, ds, p, q, rfl, rfl, rfl, h1, h2⟩ := trodAll_cons h
    have ht1 := ht t (.head _)
    exact ⟨p, q, WideElems.Trod_stays hl ht1.1 ht1.2 h1 (fun x hx => hb.same (hlt x (by simp [hx]))) (fun x hx => hsp x (by simp [hx])), ih _ _ _ (fun u hu => ht u (.tail _ hu)) h2 (fun x hx => hlt x (by simp [hx])) (fun x hx => hsp x (by simp [hx])), rfl⟩

/-- What a law's arguments are, at its call. -/
def ArgsOk (P : Program) (f : Func) (W : World) (args : Array Value) : Prop :=
  (∃ base : Nat, ∀ (j : Nat) t v, f.params[j]? = some t → args[j]? = some v → Value.okWide P W .any base t v) ∧
  ∃ (H : Type) (enc : TypeId × Value → H) (ds : List (DataW H)) (ps : List MemPlace), DataW.TrodAll enc P W 0 (fun _ => true) true f.params.toList args.toList ds ps

theorem lifted {C : Checked} {g : FuncId} {f : Func} {s : ChangeSpec} {apart fresh handsOn : Bool} (os : Os) (started : os.Started)
    (own : ownKnob C.prog.godebug = none) (noInit : C.prog.inits.idxOf? g = none) (hf : C.prog.funcs[g]? = some f) (hl : laidOutB C.prog = true)
    (hpar : (f.params.toList.all fun t => C.prog.readableRec t && decide (t < C.prog.types.size)) = true)
    {tb : TypeId} (hres : f.resultTypes = #[tb]) (htb : C.prog.underlying tb = some .bool)
    (hvars : s.vars = []) (hspec : ∀ ds : List (DataW H), ds.length = f.params.size → s.fn H ds = { results := [.lit (.bool true)], args := ds })
    (witness : ∃ (w : World) (tape : Tape) (i : Input), w.os = os ∧ (w.forCall tape i).Shaped C.prog ∧ i.vars = [] ∧ Input.okWide C.prog (w.forCall tape i) .any w.heap.size g i ∧
      s.pre6 enc C.prog f [] apart (w.forCall tape i).memory i.args ∧ ({} : Assume).holds C.prog (lone (Frame.enter C.prog g i.args .normal) [] (w.forCall tape i)))
    (hcall : ∀ (W : World) (args : Array Value), ArgsOk C.prog f W args → Calls C.prog g args W fun e W' => e = .returned (.bool true) ∧ Same W W') :
    ReturnsInHanded {} C os g .any (s.pre6 enc C.prog f [] apart) (s.post enc C.prog f apart fresh handsOn false) := by
  have hparams : ∀ t ∈ f.params.toList, C.prog.readableRec t = true ∧ t < C.prog.types.size := fun t ht => by
    have := List.all_eq_true.1 hpar t ht
    simpa using this
  refine returnsInHanded_of_change (C := C) own started noInit hf witness ?_
  intro W base args ds gs before hval hW _ _
  have hW' := hW
  obtain ⟨p, q, hA, hV, rfl, hfz, hnd⟩ := hW
  rw [hvars] at hV
  obtain ⟨rfl, rfl⟩ := trodVars_none hV
  have hlen : ds.length = f.params.size := by
    have : ∀ (ts : List TypeId) (vs : List Value) (ds : List (DataW H)) (ps : List MemPlace) , DataW.TrodAll enc C.prog W 0 (fun _ => true) true ts vs ds ps → ds.length = ts.length := by
      intro ts
      induction ts with
      | nil => intro vs ds ps h; obtain ⟨_, rfl, _⟩ := trodAll_nil h; rfl
      | cons t ts ih => intro vs ds ps h; obtain ⟨v, vs, d, ds, p, q, rfl, rfl, rfl, _, h2⟩ := trodAll_cons h; simp [ih _ _ _ h2]
    simpa using this _ _ _ _ hA
  have hsp : s.fn H (ds ++ []) = { results := [.lit (.bool true)], args := ds } := by rw [List.append_nil]; exact hspec ds hlen
  refine (hcall W args ⟨⟨base, hval⟩, H, enc, ds, p, hA⟩).mono fun e W' ⟨he, hk⟩ => ?_
  subst he
  have hlt : ∀ x ∈ p, x.block < W.heap.size := fun x hx => hW'.lt x (by simp [hx])
  have reads : ∀ sp : Nat → Bool, (∀ x ∈ p, sp x.block = true) → DataW.TrodAll enc C.prog W' 0 sp true f.params.toList args.toList ds p :=
    fun sp hs => trodAll_stays hl hk.below _ _ _ _ hparams hA hlt hs
  have answer : ∀ (b : Nat) (sp : Nat → Bool) (hd : Bool), DataW.TrodAll enc C.prog W' b sp hd f.resultTypes.toList ((Value.bool true).resultList f.resultTypes.size) [.lit (.bool true)] [] := fun b sp hd => by
    rw [hres]
    exact trodAll_cons_mk (p := []) (shut_bool htb _) trodAll_mk0
  have nones : ∀ sp : Nat → Bool, DataW.TrodVars enc C.prog W' sp s.vars [] [] := fun sp => by rw [hvars]; exact rfl
  have inOld : ∀ x ∈ p, decide (x.block < W.heap.size) = true := fun x hx => decide_eq_true (hlt x hx)
  refine ⟨_, rfl, ds, [], p ++ [], [], p, [], hW', ?_, ?_, ?_, ?_, fun again => by cases again⟩
  · rw [hsp]; exact answer _ _ _
  · rw [hsp]; exact reads _ inOld
  · rw [hsp]; exact nones _
  · exact World.keptBut_mono (fun x hx => ⟨hx, Or.inr (by simpa using hx)⟩) (hk.below.frame (· ∈ p ++ []))
end
/-- The closed facts that hang on the program alone. -/
def wideFacts (P : Program) (c : OpenClaim) : Bool :=
  laidOutB P && mapsRowed P && (P.stops == []) && (P.stopKnobs == []) && (c.plainKeys == P.plainKeys) && P.stopsHeard && P.mayEnter && (c.lifted == P.liftsFinal) && (P.make == some c.make)
/-- The others. -/
def rowFacts (P : Program) (f : FuncId) (fn : Func) (s : ChangeSpec) (c : OpenClaim) : Bool :=
  c.wf (OpenSpec.ofChange s) &&
  fn.params.all (P.readableRec ·) && namedTie P c.named s.vars &&
  (c.stops == []) && (c.knobs == []) &&
  (c.inPlace == P.inPlace f) && (c.unfollowed == P.unfollowed f) && (c.recurses == P.recurses f) && (c.named == P.varsNamed f) &&
  (c.maps == (fn.params.toList ++ s.plain.varTypes P).any (P.mapsRec ·)) && (c.ifaces == (fn.params.toList ++ s.plain.varTypes P).any (P.ifacesRec ·)) && (c.mapsOut == P.mapsAmong fn.resultTypes.toList) &&
  (c.loops == (fn.params.toList ++ s.plain.varTypes P).any (P.loopsFrom ·)) && (c.wideKeys == (fn.params.toList ++ s.plain.varTypes P ++ fn.resultTypes.toList).any (P.wideKeysFrom ·)) &&
  s.vars.all (P.varReadable ·) && fn.resultTypes.all (fun t => P.readableRec t && decide (t < P.types.size)) && (c.ifacesOut == fn.resultTypes.toList.any (P.ifacesRec ·)) && (c.loopsOut == fn.resultTypes.toList.any (P.loopsFrom ·)) && c.shortTexts.isNone &&
  (c.kinds == (if c.domain.isEmpty then [] else fn.params.toList.map fun t => match P.underlying t with | some (.int k) => some k | _ => none)) && (c.pinned == c.pinnedBy) &&
  (c.veiled == (fn.params.toList ++ s.plain.varTypes P ++ fn.resultTypes.toList).any (P.veiledRec ·)) && c.veiledFits P fn.params.toList (fn.params.toList ++ s.plain.varTypes P ++ fn.resultTypes.toList)
theorem joined_of {P : Program} {f : FuncId} {fn : Func} {s : ChangeSpec} {c c0 : OpenClaim} (h : wideFacts P c0 = true) (e1 : c.plainKeys = c0.plainKeys) (e2 : c.lifted = c0.lifted) (e3 : c.make = c0.make)
    (h' : rowFacts P f fn s c = true) : joinedFacts P f fn s c = true := by
  unfold wideFacts at h
  unfold rowFacts at h'
  unfold joinedFacts
  rw [e1, e2, e3]
  simp only [Bool.and_eq_true] at h h' ⊢
  have hk := h'.1.1.1.2
  simp only [h, h', and_true]
  exact ⟨trivial, hk⟩
theorem Fun.answers {P : Program} {g : FuncId} {args : List Value} {w : World} (h : Fun P g args w fun v w' => v = .bool true ∧ Same w w') :
    Calls P g args.toArray w fun e W' => e = .returned (.bool true) ∧ Same w W' := h.2.mono fun _ _ ⟨_, he, hv, hs⟩ => ⟨by rw [he, hv], hs⟩
end Go.Dk
end

section
/- The arguments of a law, opened. -/
namespace Go.Dk
open Go.ChangeShapes Go.WideShapes Go.ChangeAt Go.RowKit
section
variable {H : Type} {enc : TypeId × Value → H} {P : Program} {w : World} {base b : Nat} {spare : Nat → Bool} {held : Bool} {t : TypeId}
theorem arg_int (ht : P.underlying t = some (.int .i64)) {v : Value} {d : DataW H} {ps : List MemPlace} (hval : Value.okWide P w .any b t v) (h : DataW.Trod enc P w base spare held t v d ps) :
    ∃ n, v = .int .i64 n ∧ -9223372036854775808 ≤ n ∧ n < 9223372036854775808 := by
  obtain ⟨n, rfl, _, _, hw⟩ := open_int ht hval h
  refine ⟨n, rfl, ?_⟩
  simp [Lit.wf, IntKind.min, IntKind.max, IntKind.signed, IntKind.bits] at hw
  omega
theorem arg_u8 (ht : P.underlying t = some (.int .u8)) {v : Value} {d : DataW H} {ps : List MemPlace} (hval : Value.okWide P w .any b t v) (h : DataW.Trod enc P w base spare held t v d ps) :
    ∃ n : Nat, v = .int .u8 n ∧ n < 256 := by
  obtain ⟨n, rfl, _, _, hw⟩ := open_int ht hval h
  simp [Lit.wf, IntKind.min, IntKind.max, IntKind.signed, IntKind.bits] at hw
  obtain ⟨m, rfl⟩ := Int.eq_ofNat_of_zero_le hw.1
  exact ⟨m, rfl, by omega⟩
theorem arg_bool (ht : P.underlying t = some .bool) {v : Value} {d : DataW H} {ps : List MemPlace} (hval : Value.okWide P w .any b t v) (h : DataW.Trod enc P w base spare held t v d ps) :
    ∃ b, v = .bool b := by
  obtain ⟨b, rfl, _⟩ := open_bool ht hval h
  exact ⟨b, rfl⟩
theorem word_at (ht : P.underlying t = some (.int .u64)) {fuel : Nat} {c : Value} {x : DataW H × List MemPlace} (h : DataW.trod enc P w base spare held fuel t [c] = some x) : ∃ n : Nat, c = .int .u64 n ∧ n < 2 ^ 64 := by
  obtain ⟨m, hc, rfl, hw⟩ := DataW.trod_int ht h
  simp [Lit.wf, IntKind.min, IntKind.max, IntKind.signed, IntKind.bits] at hw
  obtain ⟨n, rfl⟩ := Int.eq_ofNat_of_zero_le hw.1
  simp at hc
  exact ⟨n, hc, by omega⟩
theorem arg_words {e : TypeId} (ht : P.underlying t = some (.array 4 e)) (he : P.underlying e = some (.int .u64)) (h4 : P.cellsOf t = 4) (h1 : P.cellsOf e = 1) {v : Value} {d : DataW H} {ps : List MemPlace} (hval : Value.okWide P w .any b t v) (h : DataW.Trod enc P w base spare held t v d ps) :
    ∃ n0 n1 n2 n3 : Nat, v = .agg #[.int .u64 n0, .int .u64 n1, .int .u64 n2, .int .u64 n3] ∧ n0 < 2 ^ 64 ∧ n1 < 2 ^ 64 ∧ n2 < 2 ^ 64 ∧ n3 < 2 ^ 64 := by
  unfold Value.okWide at hval
  rw [ht] at hval
  obtain ⟨⟨cs⟩, rfl, hsz, _⟩ := hval
  obtain ⟨fuel, hf⟩ := h
  rw [h4] at hsz
  match cs, hsz, hf with
  | [c0, c1, c2, c3], _, hf =>
    obtain ⟨y0, y1, y2, y3, n, _, k0, k1, k2, k3⟩ := trod_array4 ht h1 (by simpa [Value.cells] using hf)
    obtain ⟨n0, rfl, l0⟩ := word_at he k0
    obtain ⟨n1, rfl, l1⟩ := word_at he k1
    obtain ⟨n2, rfl, l2⟩ := word_at he k2
    obtain ⟨n3, rfl, l3⟩ := word_at he k3
    exact ⟨n0, n1, n2, n3, rfl, l0, l1, l2, l3⟩
end
end Go.Dk
namespace Go.Proofs.Ytjebpngdinbckaa
open Go.Dk Go.ChangeShapes Go.WideShapes Go.ChangeAt Go.RowKit
/-- Four words make a set. -/
theorem sv_of {a b c d : Nat} (ha : a < 2 ^ 64) (hb : b < 2 ^ 64) (hc : c < 2 ^ 64) (hd : d < 2 ^ 64) :
    ∃ n, n < 2 ^ 256 ∧ Value.agg #[.int .u64 (a : Int), .int .u64 (b : Int), .int .u64 (c : Int), .int .u64 (d : Int)] = sv n := by
  have h1 : a + 2 ^ 64 * (b + 2 ^ 64 * (c + 2 ^ 64 * d)) < 2 ^ 256 := by omega
  refine ⟨_, h1, ?_⟩
  have w0 : word (a + 2 ^ 64 * (b + 2 ^ 64 * (c + 2 ^ 64 * d))) 0 = a := by unfold word; omega
  have w1 : word (a + 2 ^ 64 * (b + 2 ^ 64 * (c + 2 ^ 64 * d))) 1 = b := by unfold word; omega
  have w2 : word (a + 2 ^ 64 * (b + 2 ^ 64 * (c + 2 ^ 64 * d))) 2 = c := by unfold word; omega
  have w3 : word (a + 2 ^ 64 * (b + 2 ^ 64 * (c + 2 ^ 64 * d))) 3 = d := by unfold word; omega
  unfold sv sc
  rw [w0, w1, w2, w3]
section
variable {H : Type} {enc : TypeId × Value → H} {w : World} {base b : Nat} {spare : Nat → Bool} {held : Bool}
set_option maxRecDepth 100000 in
theorem arg_set {v : Value} {d : DataW H} {ps : List MemPlace} (hval : Value.okWide Try.prog w .any b 24 v) (h : DataW.Trod enc Try.prog w base spare held 24 v d ps) : ∃ n, n < 2 ^ 256 ∧ v = sv n := by
  obtain ⟨n0, n1, n2, n3, rfl, h0, h1, h2, h3⟩ := arg_words Try.underlying24 Try.underlying22 (by kernel_rfl) (by kernel_rfl) hval h
  obtain ⟨n, hn, he⟩ := sv_of h0 h1 h2 h3
  exact ⟨n, hn, he⟩
end
theorem laidOut : laidOutB Try.prog = true := by kernel_rfl
/-! ### The program's order word, taken apart: only its first words are looked at -/
def ordSp : Char := Char.ofNat 32
def ordA : List Char := List.map Char.ofNat [104, 97, 114, 110, 101, 115, 115]
def ordB : List Char := List.map Char.ofNat [
  102, 57, 52, 50, 52, 52, 100, 49, 56, 51, 52, 57, 51, 52, 101, 49, 48, 56, 98, 100, 48, 54, 50, 101, 52, 100, 98, 98, 48, 52, 57, 101, 49, 97, 49, 55, 100, 101, 48, 102, 97, 49,
  48, 55, 53, 98, 51, 99, 48, 98, 54, 100, 100, 57, 52, 54, 57, 100, 51, 97, 53, 53, 51, 51]
def ordC : List Char := List.map Char.ofNat [99, 117, 116]
def ordRest : List Char := List.map Char.ofNat [
  97, 116, 32, 100, 114, 97, 119, 107, 110, 105, 102, 101, 47, 100, 114, 97, 119, 107, 110, 105, 102, 101, 108, 97, 119, 48, 49, 46, 83, 101, 116, 80, 111, 105, 110, 116, 115, 32,
  100, 114, 97, 119, 107, 110, 105, 102, 101, 47, 100, 114, 97, 119, 107, 110, 105, 102, 101, 108, 97, 119, 48, 49, 46, 83, 101, 116, 72, 97, 108, 118, 101, 115, 32, 100, 114, 97,
  119, 107, 110, 105, 102, 101, 47, 100, 114, 97, 119, 107, 110, 105, 102, 101, 108, 97, 119, 48, 49, 46, 83, 101, 116, 66, 111, 116, 104, 32, 100, 114, 97, 119, 107, 110, 105, 102,
  101, 47, 100, 114, 97, 119, 107, 110, 105, 102, 101, 108, 97, 119, 48, 49, 46, 83, 101, 116, 80, 97, 114, 116, 115, 32, 100, 114, 97, 119, 107, 110, 105, 102, 101, 47, 100, 114,
  97, 119, 107, 110, 105, 102, 101, 108, 97, 119, 48, 50, 46, 67, 117, 98, 101, 80, 111, 105, 110, 116, 115, 32, 100, 114, 97, 119, 107, 110, 105, 102, 101, 47, 100, 114, 97, 119,
  107, 110, 105, 102, 101, 108, 97, 119, 48, 50, 46, 67, 117, 98, 101, 80, 97, 114, 115, 101, 115, 32, 100, 114, 97, 119, 107, 110, 105, 102, 101, 47, 100, 114, 97, 119, 107, 110,
  105, 102, 101, 108, 97, 119, 48, 53, 46, 65, 114, 101, 110, 97, 77, 97, 107, 101, 115, 32, 100, 114, 97, 119, 107, 110, 105, 102, 101, 47, 100, 114, 97, 119, 107, 110, 105, 102,
  101, 108, 97, 119, 48, 53, 46, 65, 114, 101, 110, 97, 75, 101, 101, 112, 115, 32, 100, 114, 97, 119, 107, 110, 105, 102, 101, 47, 100, 114, 97, 119, 107, 110, 105, 102, 101, 108,
  97, 119, 48, 53, 46, 65, 114, 101, 110, 97, 78, 105, 108, 32, 100, 114, 97, 119, 107, 110, 105, 102, 101, 47, 100, 114, 97, 119, 107, 110, 105, 102, 101, 108, 97, 119, 48, 50, 46,
  67, 117, 98, 101, 83, 101, 116, 115, 32, 100, 114, 97, 119, 107, 110, 105, 102, 101, 47, 100, 114, 97, 119, 107, 110, 105, 102, 101, 108, 97, 119, 49, 52, 46, 82, 101, 100, 117,
  99, 101, 83, 116, 101, 112, 115, 32, 100, 114, 97, 119, 107, 110, 105, 102, 101, 47, 100, 114, 97, 119, 107, 110, 105, 102, 101, 108, 97, 119, 49, 52, 46, 82, 101, 100, 117, 99,
  101, 65, 108, 108, 32, 100, 114, 97, 119, 107, 110, 105, 102, 101, 47, 100, 114, 97, 119, 107, 110, 105, 102, 101, 108, 97, 119, 49, 52, 46, 82, 101, 100, 117, 99, 101, 66, 101,
  115, 116, 32, 100, 114, 97, 119, 107, 110, 105, 102, 101, 47, 100, 114, 97, 119, 107, 110, 105, 102, 101, 108, 97, 119, 49, 52, 46, 82, 101, 100, 117, 99, 101, 83, 111, 108, 118,
  101, 115, 32, 100, 114, 97, 119, 107, 110, 105, 102, 101, 47, 100, 114, 97, 119, 107, 110, 105, 102, 101, 108, 97, 119, 48, 55, 46, 79, 114, 100, 101, 114, 83, 105, 122, 101, 115,
  32, 100, 114, 97, 119, 107, 110, 105, 102, 101, 47, 100, 114, 97, 119, 107, 110, 105, 102, 101, 108, 97, 119, 48, 55, 46, 79, 114, 100, 101, 114, 77, 111, 118, 101, 115, 32, 100,
  114, 97, 119, 107, 110, 105, 102, 101, 47, 100, 114, 97, 119, 107, 110, 105, 102, 101, 108, 97, 119, 48, 55, 46, 79, 114, 100, 101, 114, 83, 105, 102, 116, 115, 32, 100, 114, 97,
  119, 107, 110, 105, 102, 101, 47, 100, 114, 97, 119, 107, 110, 105, 102, 101, 108, 97, 119, 48, 55, 46, 79, 114, 100, 101, 114, 83, 104, 114, 105, 110, 107, 115, 32, 100, 114, 97,
  119, 107, 110, 105, 102, 101, 47, 100, 114, 97, 119, 107, 110, 105, 102, 101, 108, 97, 119, 48, 54, 46, 66, 100, 100, 83, 101, 116, 115, 32, 100, 114, 97, 119, 107, 110, 105, 102,
  101, 47, 100, 114, 97, 119, 107, 110, 105, 102, 101, 108, 97, 119, 48, 54, 46, 66, 100, 100, 82, 111, 111, 109, 32, 100, 114, 97, 119, 107, 110, 105, 102, 101, 47, 100, 114, 97,
  119, 107, 110, 105, 102, 101, 108, 97, 119, 48, 54, 46, 66, 100, 100, 79, 110, 101, 32, 100, 114, 97, 119, 107, 110, 105, 102, 101, 47, 100, 114, 97, 119, 107, 110, 105, 102, 101,
  108, 97, 119, 49, 53, 46, 83, 101, 97, 114, 99, 104, 66, 111, 117, 110, 100, 115, 32, 100, 114, 97, 119, 107, 110, 105, 102, 101, 47, 100, 114, 97, 119, 107, 110, 105, 102, 101,
  108, 97, 119, 49, 53, 46, 83, 101, 97, 114, 99, 104, 70, 101, 119, 101, 115, 116, 32, 100, 114, 97, 119, 107, 110, 105, 102, 101, 47, 100, 114, 97, 119, 107, 110, 105, 102, 101,
  108, 97, 119, 49, 53, 46, 83, 101, 97, 114, 99, 104, 78, 111, 110, 101, 32, 100, 114, 97, 119, 107, 110, 105, 102, 101, 47, 100, 114, 97, 119, 107, 110, 105, 102, 101, 108, 97,
  119, 48, 54, 46, 66, 100, 100, 68, 111, 101, 115, 32, 100, 114, 97, 119, 107, 110, 105, 102, 101, 47, 100, 114, 97, 119, 107, 110, 105, 102, 101, 108, 97, 119, 50, 49, 46, 83, 119,
  97, 112, 83, 116, 101, 112, 115, 32, 100, 114, 97, 119, 107, 110, 105, 102, 101, 47, 100, 114, 97, 119, 107, 110, 105, 102, 101, 108, 97, 119, 50, 49, 46, 83, 119, 97, 112, 79,
  110, 101, 32, 100, 114, 97, 119, 107, 110, 105, 102, 101, 47, 100, 114, 97, 119, 107, 110, 105, 102, 101, 108, 97, 119, 50, 49, 46, 83, 119, 97, 112, 70, 111, 108, 108, 111, 119,
  115, 32, 100, 114, 97, 119, 107, 110, 105, 102, 101, 47, 100, 114, 97, 119, 107, 110, 105, 102, 101, 108, 97, 119, 50, 49, 46, 83, 119, 97, 112, 71, 114, 97, 112, 104, 115, 32,
  100, 114, 97, 119, 107, 110, 105, 102, 101, 47, 100, 114, 97, 119, 107, 110, 105, 102, 101, 108, 97, 119, 50, 49, 46, 83, 119, 97, 112, 82, 105, 103, 104, 116, 115, 32, 100, 114,
  97, 119, 107, 110, 105, 102, 101, 47, 100, 114, 97, 119, 107, 110, 105, 102, 101, 108, 97, 119, 49, 57, 46, 67, 111, 109, 112, 111, 115, 101, 70, 105, 120, 101, 115, 32, 100, 114,
  97, 119, 107, 110, 105, 102, 101, 47, 100, 114, 97, 119, 107, 110, 105, 102, 101, 108, 97, 119, 49, 57, 46, 67, 111, 109, 112, 111, 115, 101, 80, 97, 114, 116, 115, 32, 100, 114,
  97, 119, 107, 110, 105, 102, 101, 47, 100, 114, 97, 119, 107, 110, 105, 102, 101, 108, 97, 119, 49, 57, 46, 67, 111, 109, 112, 111, 115, 101, 67, 111, 117, 110, 116, 115, 32, 100,
  114, 97, 119, 107, 110, 105, 102, 101, 47, 100, 114, 97, 119, 107, 110, 105, 102, 101, 108, 97, 119, 49, 57, 46, 67, 111, 109, 112, 111, 115, 101, 82, 101, 102, 117, 115, 101, 115]
def ordSigns : List Char := ordA ++ ordSp :: (ordB ++ ordSp :: (ordC ++ ordSp :: ordRest))
theorem ordWord : Try.prog.initOrder = String.ofList ordSigns := by kernel_rfl
theorem ordList : Try.prog.initOrder.toList = ordSigns := (congrArg String.toList ordWord).trans String.toList_ofList
theorem words_sp (r : List Char) : wordsSigns (ordSp :: r) = [] :: wordsSigns r := rfl
theorem words_word : ∀ (a r : List Char), (a.all fun c => c != ordSp) = true → wordsSigns (a ++ ordSp :: r) = a :: wordsSigns r := by
  intro a
  induction a with
  | nil => intro r _; exact words_sp r
  | cons c a ih =>
    intro r h
    rw [List.all_cons, Bool.and_eq_true, bne_iff_ne] at h
    have hc : c ≠ Char.ofNat 32 := h.1
    rw [List.cons_append, wordsSigns, ih r h.2]
    exact hc
theorem ordWords : wordsSigns Try.prog.initOrder.toList = ordA :: ordB :: ordC :: wordsSigns ordRest := by
  rw [ordList]
  unfold ordSigns
  rw [words_word _ _ (by kernel_rfl), words_word _ _ (by kernel_rfl), words_word _ _ (by kernel_rfl)]
theorem make_cut {P : Program} {c : List Char} {R : List (List Char)} (h : behindMainWord (wordsSigns P.initOrder.toList) = c :: R) (h1 : (c == "gc".toList) = false) (h2 : (c == "spec".toList) = false) (h3 : (c == "cut".toList) = true) : P.make = some .cut := by
  unfold Program.make
  rw [h]
  simp only [h1, h2, h3, Bool.or_self, Bool.true_or, if_true, Bool.false_eq_true, if_false]
theorem lifts_cut {P : Program} {c : List Char} {R : List (List Char)} (h : behindMainWord (wordsSigns P.initOrder.toList) = c :: R) (h1 : stripLifts liftWords (c :: R) = ([], c :: R)) : P.headLifts = [] := by
  unfold Program.headLifts
  rw [h, h1]
  simp
theorem final_cut {P : Program} {c : List Char} {R : List (List Char)} (h : behindMainWord (wordsSigns P.initOrder.toList) = c :: R) (h1 : P.headLifts = []) (h2 : (c == "carried".toList) = false) : P.liftsFinal = false := by
  unfold Program.liftsFinal
  rw [h1, h]
  simp only [List.head?_cons, Option.some_beq_some, h2, Bool.false_and, Bool.false_or]
  rfl
theorem enter_cut {P : Program} {c : List Char} {R : List (List Char)} (h : behindMainWord (wordsSigns P.initOrder.toList) = c :: R) (h1 : stripLifts liftWords (c :: R) = ([], c :: R)) (h3 : (c == "cut".toList) = true)
    (k1 : P.laysLater = false) (k2 : P.bearsReflect = false) (k3 : P.doorFits [] = true) : P.mayEnter = true := by
  unfold Program.mayEnter
  rw [h]
  simp only [h1, k1, k2, k3, List.head?_cons, Option.some_beq_some, h3, Bool.not_false, Bool.or_true, Bool.and_self, List.contains_nil]
theorem behindMain (R : List (List Char)) : behindMainWord (ordA :: ordB :: ordC :: R) = ordC :: R := by kernel_rfl
theorem behind : behindMainWord (wordsSigns Try.prog.initOrder.toList) = ordC :: wordsSigns ordRest := (congrArg behindMainWord ordWords).trans (behindMain _)
theorem strip (R : List (List Char)) : stripLifts liftWords (ordC :: R) = ([], ordC :: R) := by kernel_rfl
theorem headLifts : Try.prog.headLifts = [] := lifts_cut behind (strip _)
theorem mayEnter : Try.prog.mayEnter = true := enter_cut behind (strip _) (by kernel_rfl) (by kernel_rfl) (by kernel_rfl) (by kernel_rfl)
theorem liftsFinal : Try.prog.liftsFinal = false := final_cut behind headLifts (by kernel_rfl)
theorem makeIs : Try.prog.make = some .cut := make_cut behind (by kernel_rfl) (by kernel_rfl) (by kernel_rfl)
theorem wide_of {P : Program} {c : OpenClaim} (h1 : laidOutB P = true) (h2 : mapsRowed P = true) (h3 : (P.stops == []) = true) (h4 : (P.stopKnobs == []) = true) (h5 : (c.plainKeys == P.plainKeys) = true) (h6 : P.stopsHeard = true) (h7 : P.mayEnter = true)
    (h8 : P.liftsFinal = false) (h9 : P.make = some .cut) (e1 : c.lifted = false) (e2 : c.make = .cut) : wideFacts P c = true := by
  unfold wideFacts
  rw [h1, h2, h3, h4, h5, h6, h7, h8, h9, e1, e2]
  rfl
theorem wide : wideFacts Try.prog Rows.setPointsRow = true :=
  wide_of laidOut (by kernel_rfl) (by kernel_rfl) (by kernel_rfl) (by kernel_rfl) (by kernel_rfl) mayEnter liftsFinal makeIs rfl rfl
theorem ownK : ownKnob Try.prog.godebug = none := by kernel_rfl
end Go.Proofs.Ytjebpngdinbckaa
end

section
/- The statements of chapter 1: SetHalves. -/
namespace Go.Proofs.Ytjebpngdinbckaa
open Go.Dk
attribute [local irreducible] IntKind.wrap

/-! ### SetHalves -/
theorem ofFlags_lt (l : List Bool) : ofFlags l < 2 ^ 256 := setOf_lt _
theorem testBit_ofFlags (l : List Bool) (p : Nat) : (ofFlags l).testBit p = (decide (p < 256) && l.getD p false) := by
  rw [ofFlags, testBit_setOf]
theorem ofFlags_set {l : List Bool} (hl : l.length = 256) {p : Nat} (hp : p < 256) : ofFlags (l.set p true) = ofFlags l ||| 2 ^ p := by
  refine set_ext (setOf_lt _) (or_lt (ofFlags_lt l) (Nat.pow_lt_pow_right (by decide) hp)) fun q hq => ?_
  rw [testBit_ofFlags, Nat.testBit_or, testBit_ofFlags, Nat.testBit_two_pow, List.getD_eq_getElem?_getD, List.getElem?_set]
  by_cases h : p = q
  · subst h; simp [hq, hl]
  · simp [h, hq]
theorem ofFlags_none : ofFlags (List.replicate 256 false) = 0 := by
  refine set_ext (setOf_lt _) (by decide) fun q hq => ?_
  rw [testBit_ofFlags, Nat.zero_testBit, List.getD_eq_getElem?_getD, List.getElem?_replicate]
  simp [hq]
theorem pts_lt {n p : Nat} (hp : p ∈ pts n) : p < 256 := (mem_bitsBelow.1 hp).1
theorem ent4 : enters Try.prog 4 = true := by kernel_rfl
theorem law4 (n : Nat) (_ : n < 2 ^ 256) (m : Int) (one : Bool) (w : World) : Fun Try.prog 4 [sv n, .int .i64 m, .bool one] w fun v w' => v = .bool true ∧ Same w w' := by
  refine fun_of_W (N := 52) Try.func4 ent4 rfl rfl rfl (by simp) ?_
  have H := Hp.start0 w
  refine H.box 24 (sv n) (cs := sc n) rfl ?_
  intro g1 w1 H
  refine H.make T29 256 rfl rfl (by decide) (by decide) ?_
  intro g w2 H
  rw [madeBool, show List.replicate 256 (Value.bool false) = bls (List.replicate 256 false) from List.map_replicate.symm] at H
  refine H.loadAll 1 rfl agg24 size24 ?_
  refine call_fn (c42 n _) ?_
  rintro v w3 ⟨A, c, rfl, hnew⟩
  have H := H.addNew hnew
  clear hnew
  have hple := pts_le n
  refine cut_rule (γ := List Bool) _ rfl (fun _ => []) (fun l w' => (l.length = 256 ∧ ofFlags l = halfI n m one) ∧
      Hp w (fun _ => False) w' [own 3 1 (.slice A (pts n).length c) (pts n).length (ints (pts n)), own 4 1 (.slice (some ⟨g, 0, none⟩) 256 256) 256 (bls l), blk g1 24 (sc n)] []) ?_ ?_
  · refine loop_rule (γ := Nat × List Bool) _ rfl (fun (i, _) => [(9, .int .i64 (i : Int))])
      (fun (i, l) w' => (i ≤ (pts n).length ∧ l.length = 256 ∧ ofFlags l = if 0 ≤ m ∧ m < 8 then orAll (((pts n).take i).filter fun p => p.testBit m.toNat == one) else 0) ∧
        Hp w (fun _ => False) w' [own 3 1 (.slice A (pts n).length c) (pts n).length (ints (pts n)), own 4 1 (.slice (some ⟨g, 0, none⟩) 256 256) 256 (bls l), blk g1 24 (sc n)] [])
      (fun (i, _) => (pts n).length - i) (0, List.replicate 256 false) ⟨rfl, trivial⟩ ⟨⟨by omega, List.length_replicate, by rw [ofFlags_none]; simp [orAll]⟩, H⟩ ?_
    clear H
    rintro ⟨i, l⟩ u w4 ⟨⟨hi, hl, hf⟩, H⟩
    refine len_sl Try.underlying32 ?_
    have fin : ((pts n).length ≤ i ∨ ¬ (0 ≤ m ∧ m < 8)) → ofFlags l = halfI n m one := by
      intro h
      unfold halfI
      rw [hf]
      by_cases hm : 0 ≤ m ∧ m < 8
      · rw [if_pos hm, if_pos hm, halfN_eq, List.take_of_length_le (by omega)]
      · rw [if_neg hm, if_neg hm]
    refine cond_split (fun h => ?_) (fun h => ?_)
    · have hi' : i < (pts n).length := by have := of_decide_eq_true h; omega
      refine cond_yes h ?_
      refine cond_yes h ?_
      refine cond_split (fun h0 => ?_) (fun h0 => ?_)
      · have h0' := of_decide_eq_true h0
        refine cond_yes h0 ?_
        refine cond_yes h0 ?_
        refine cond_split (fun h8 => ?_) (fun h8 => ?_)
        · have h8' := of_decide_eq_true h8
          obtain ⟨q, rfl⟩ := Int.eq_ofNat_of_zero_le (show 0 ≤ m by omega)
          obtain ⟨ga, rfl⟩ := H.ownA 0 rfl (by omega)
          have hp := pts_lt (List.getElem_mem hi')
          refine idxAddr_sl Try.underlying32 size3 i rfl hi' (o' := i) (by omega) ?_
          refine H.loadOwn 0 rfl agg3 (ints_get hi') ?_
          refine call_fn (c48 (pts n)[i] q (by omega) (by omega) _) ?_
          rintro v w5 ⟨rfl, hk⟩
          have H := H.same hk
          have hb : ((((pts n)[i] / 2 ^ q % 2 : Nat) : Int) == 1) = (pts n)[i].testBit q := by rw [← div_pow_mod, Bool.eq_iff_iff, beq_iff_eq, decide_eq_true_eq]
          refine bin_eql_bool Try.underlying4 ?_
          rw [hb]
          rw [if_pos ⟨h0', h8'⟩] at hf
          have htake : (pts n).take (i + 1) = (pts n).take i ++ [(pts n)[i]] := (List.take_append_getElem hi').symm
          refine cond_split (fun ht => ?_) (fun ht => ?_)
          · refine idxAddr_sl Try.underlying32 size3 i rfl hi' (o' := i) (by omega) ?_
            refine H.loadOwn 0 rfl agg3 (ints_get hi') ?_
            refine idxAddr_sl Try.underlying29 size4 (pts n)[i] rfl hp (o' := (pts n)[i]) (by omega) ?_
            refine H.storeOwn 1 rfl size4 ?_ rfl ?_
            · rw [bls, List.length_map]; omega
            intro w6 H
            refine ⟨(i + 1, l.set (pts n)[i] true), by show _ - (i + 1) < _ - i; omega, ⟨up (by omega), trivial⟩, ⟨by show i + 1 ≤ _; omega, by rw [List.length_set]; exact hl, ?_⟩, ?_⟩
            · show ofFlags (l.set (pts n)[i] true) = if 0 ≤ (q : Int) ∧ (q : Int) < 8 then orAll (((pts n).take (i + 1)).filter fun p => p.testBit (q : Int).toNat == one) else 0
              rw [if_pos ⟨h0', h8'⟩, ofFlags_set hl hp, hf, htake, List.filter_append, List.filter_cons_of_pos (by simpa using ht), List.filter_nil, orAll_snoc]
            · have e : (bls l).set (pts n)[i] (.bool true) = bls (l.set (pts n)[i] true) := by rw [bls, bls, List.map_set]
              rw [← e]; exact H
          · refine ⟨(i + 1, l), by show _ - (i + 1) < _ - i; omega, ⟨up (by omega), trivial⟩, ⟨by show i + 1 ≤ _; omega, hl, ?_⟩, H⟩
            show ofFlags l = if 0 ≤ (q : Int) ∧ (q : Int) < 8 then orAll (((pts n).take (i + 1)).filter fun p => p.testBit (q : Int).toNat == one) else 0
            rw [if_pos ⟨h0', h8'⟩, hf, htake, List.filter_append, List.filter_cons_of_neg (by simpa using ht), List.filter_nil, List.append_nil]
        · exact ⟨l, trivial, ⟨hl, fin (.inr (by have := of_decide_eq_false h8; omega))⟩, H⟩
      · refine cond_no h0 ?_
        refine cond_no h0 ?_
        refine cond_no rfl ?_
        exact ⟨l, trivial, ⟨hl, fin (.inr (by have := of_decide_eq_false h0; omega))⟩, H⟩
    · refine cond_no h ?_
      refine cond_no h ?_
      repeat refine cond_no rfl ?_
      exact ⟨l, trivial, ⟨hl, fin (.inl (by have := of_decide_eq_false h; omega))⟩, H⟩
  · clear H
    rintro l u w4 ⟨⟨hl, hf⟩, H⟩
    refine H.loadAll 2 rfl agg24 size24 ?_
    refine call_fn (c49 n m one _) ?_
    rintro v w5 ⟨rfl, hk⟩
    have H := H.same hk
    refine call_fn (c38 l hl _ _ _ (own_Sl (H.get 1 rfl))) ?_
    rintro v w6 ⟨rfl, hk⟩
    have H := H.same hk
    have hlt := ofFlags_lt l
    rw [hf] at hlt ⊢
    refine bin_eql24 hlt hlt ?_
    repeat refine cond_yes (beq_self_eq_true _) ?_
    refine call_fn (c47 _) ?_
    rintro v w16 ⟨rfl, hk⟩
    have H := H.same hk
    repeat refine cond_yes (beq_self_eq_true _) ?_
    exact ⟨rfl, H.keeps⟩
end Go.Proofs.Ytjebpngdinbckaa
end

section
/- Cubes: their values, and the functions of package cube. -/
namespace Go.Proofs.Ytjebpngdinbckaa
open Go.Dk
attribute [local irreducible] IntKind.wrap

/-! ### A cube: which inputs it cares for, and the signs of those -/
def cc (c s : Nat) : Array Value := #[.int .u8 (c : Int), .int .u8 (s : Int)]
def cv (c s : Nat) : Value := .agg (cc c s)
theorem zero46 : zeroT Try.prog 46 = some (.agg #[.int .u8 0, .int .u8 0]) := by kernel_rfl
theorem agg46 : aggT Try.prog 46 = some true := by kernel_rfl
theorem size46 : sizeT Try.prog 46 = some 2 := by kernel_rfl
theorem agg5 : aggT Try.prog 5 = some false := by kernel_rfl
theorem size5 : sizeT Try.prog 5 = some 1 := by kernel_rfl
theorem cc_one (c s : Nat) : ∀ v ∈ (cc c s).toList, v.oneCell' = true := by
  intro v hv
  simp [cc] at hv
  rcases hv with rfl | rfl <;> rfl
theorem fa46_0 (g : Nat) (w : World) : (Instr.fieldAt 46 (.pointer (some ⟨g, 0, none⟩)) 0).run Try.prog w = .ok (.pointer (some ⟨g, 0, none⟩)) w := by kernel_rfl
theorem fa46_1 (g : Nat) (w : World) : (Instr.fieldAt 46 (.pointer (some ⟨g, 0, none⟩)) 1).run Try.prog w = .ok (.pointer (some ⟨g, 1, none⟩)) w := by kernel_rfl
theorem build46 {c s : Nat} {w : World} {kk : Value → World → Prop} (h : kk (cv c s) w) : buildK Try.prog 46 [(0, .int .u8 (c : Int)), (1, .int .u8 (s : Int))] w kk :=
  build_by (fun w => by kernel_rfl) h
theorem build46z {w : World} {kk : Value → World → Prop} (h : kk (cv 0 0) w) : buildK Try.prog 46 [] w kk :=
  build_by (fun w => by kernel_rfl) h
theorem egt46 : Try.prog.eqGuardType Try.prog.depth 46 = false := by kernel_rfl
theorem run_eq46 (a b c d : Nat) (w : World) : (Op.equal 46 (cv a b) (cv c d)).run Try.prog w = .ok (a == c && b == d) w := by
  have hr : ∀ d', (Op.equalIn (d' + 2) 46 (cv a b) (cv c d)).run Try.prog w = .ok (a == c && b == d) w := by
    intro d'
    unfold cv
    rw [Op.equalIn]
    have i0 := run_eqInt Try.underlying5 d' (a : Int) (c : Int)
    have i1 := run_eqInt Try.underlying5 d' (b : Int) (d : Int)
    have p0 : ∀ (x y : Nat) w, (Go.part 5 (cc x y) 0).run Try.prog w = .ok (.int .u8 (x : Int)) w := fun x y w => run_part agg5 rfl w
    have p1 : ∀ (x y : Nat) w, (Go.part 5 (cc x y) 1).run Try.prog w = .ok (.int .u8 (y : Int)) w := fun x y w => run_part agg5 rfl w
    have e0 : ((a : Int) == (c : Int)) = (a == c) := by rw [Bool.eq_iff_iff, beq_iff_eq, beq_iff_eq, Int.natCast_inj]
    have e1 : ((b : Int) == (d : Int)) = (b == d) := by rw [Bool.eq_iff_iff, beq_iff_eq, beq_iff_eq, Int.natCast_inj]
    rw [e0] at i0
    rw [e1] at i1
    generalize (a == c) = b0 at *
    generalize (b == d) = b1 at *
    have hst : Try.prog.stoodInHeld 46 = false := by kernel_rfl
    simp only [Sem.run_bind, run_underlying Try.underlying46, Result.andThen_ok, Go.Dk.run_sizeOf size46, run_program, hst]
    cases b0 <;> cases b1 <;> simp [p0, p1, i0, i1]
  exact hr 9998

theorem _root_.Go.Dk.Hp.storeSet {w0 w : World} {F : Nat → Prop} {L M : List Res} {k : Value → World → Prop} (H : Hp w0 F w L M) (n : Nat) {g a b : Nat} (hn : L[n]? = some (blk g 24 (sc a)))
    (h : ∀ w', Hp w0 F w' (L.set n (blk g 24 (sc b))) M → k undef w') : storeK Try.prog 24 (.pointer (some ⟨g, 0, none⟩)) (sv b) w k :=
  H.storeAll n hn size24 rfl (sc_one _) h
theorem _root_.Go.Dk.Hp.storeCube {w0 w : World} {F : Nat → Prop} {L M : List Res} {k : Value → World → Prop} (H : Hp w0 F w L M) (n : Nat) {g a b c d : Nat} (hn : L[n]? = some (blk g 46 (cc a b)))
    (h : ∀ w', Hp w0 F w' (L.set n (blk g 46 (cc c d))) M → k undef w') : storeK Try.prog 46 (.pointer (some ⟨g, 0, none⟩)) (cv c d) w k :=
  H.storeAll n hn size46 rfl (cc_one _ _) h

theorem ent58 : enters Try.prog 58 = true := by kernel_rfl
theorem c58_b (m v : Nat) (n : Int) (hn : n < 0 ∨ 8 < n) (w : World) : Fun Try.prog 58 [cv m v, .int .i64 n] w fun r w' => r = .bool false ∧ Same w w' := by
  refine fun_of_W (N := 27) Try.func58 ent58 rfl rfl rfl (by simp) ?_
  have H := Hp.start0 w
  refine H.box 46 (cv _ _) (cs := cc _ _) rfl ?_
  clear H
  intro g1 w1 H
  refine H.draw fol (by kernel_rfl) ?_
  clear H
  intro w2 H
  refine cond_split (fun h3 => ?_) (fun h3 => ?_)
  · refine cond_yes (by assumption) ?_
    refine cond_yes (by assumption) ?_
    refine cond_split (fun h6 => ?_) (fun h6 => ?_)
    · refine quiet _ (fun w H => fieldAddr_by (fa46_0 _) ⟨rfl, rfl⟩) ?_
      refine cond_yes (by assumption) ?_
      refine quiet _ (fun w H => H.load 0 rfl agg5 rfl ⟨rfl, rfl⟩) ?_
      refine cond_yes (by assumption) ?_
      refine quiet _ (fun w H => conv_int (by kernel_rfl) Try.underlying3 ⟨rfl, rfl⟩) ?_
      iterate 2 refine cond_yes (by assumption) ?_
      exfalso
      simp only [decide_eq_true_eq, decide_eq_false_iff_not] at *
      omega
    · refine cond_no (by assumption) ?_
      iterate 5 refine cond_no (by assumption) ?_
      iterate 7 refine cond_no rfl ?_
      exact ⟨rfl, H.keeps⟩
  · refine cond_no (by assumption) ?_
    refine cond_no (by assumption) ?_
    iterate 14 refine cond_no rfl ?_
    exact ⟨rfl, H.keeps⟩
theorem c58_a (m v : Nat) (hm : m < 256) (hv : v < 256) (n : Nat) (hn : n ≤ 8) (w : World) : Fun Try.prog 58 [cv m v, .int .i64 (n : Int)] w fun r w' => r = .bool (rightN m v n) ∧ Same w w' := by
  refine fun_of_W (N := 27) Try.func58 ent58 rfl rfl rfl (by simp) ?_
  have H := Hp.start0 w
  refine H.box 46 (cv _ _) (cs := cc _ _) rfl ?_
  clear H
  intro g1 w1 H
  refine H.draw fol (by kernel_rfl) ?_
  clear H
  intro w2 H
  iterate 3 refine cond_yes rfl ?_
  refine cond_yes (decide_eq_true (by omega)) ?_
  refine quiet _ (fun w H => fieldAddr_by (fa46_0 _) ⟨rfl, rfl⟩) ?_
  refine cond_yes (decide_eq_true (by omega)) ?_
  refine quiet _ (fun w H => H.load 0 rfl agg5 rfl ⟨rfl, rfl⟩) ?_
  refine cond_yes (decide_eq_true (by omega)) ?_
  refine quiet _ (fun w H => conv_i64 (by kernel_rfl) Try.underlying3 (by omega) (by omega) ⟨rfl, rfl⟩) ?_
  iterate 2 refine cond_yes (decide_eq_true (by omega)) ?_
  refine quiet _ (fun w H => bin_one_shl_i64 (by omega) ⟨rfl, rfl⟩) ?_
  iterate 2 refine cond_yes (decide_eq_true (by omega)) ?_
  refine cond_split (fun h17 => ?_) (fun h17 => ?_)
  · refine quiet _ (fun w H => fieldAddr_by (fa46_1 _) ⟨rfl, rfl⟩) ?_
    refine cond_yes (by assumption) ?_
    refine quiet _ (fun w H => H.load 0 rfl agg5 rfl ⟨rfl, rfl⟩) ?_
    refine cond_yes (by assumption) ?_
    refine quiet _ (fun w H => fieldAddr_by (fa46_0 _) ⟨rfl, rfl⟩) ?_
    refine cond_yes (by assumption) ?_
    refine quiet _ (fun w H => H.load 0 rfl agg5 rfl ⟨rfl, rfl⟩) ?_
    refine cond_yes (by assumption) ?_
    refine quiet _ (fun w H => bin_andNot_u8 (by omega) (by omega) ⟨rfl, rfl⟩) ?_
    iterate 2 refine cond_yes (by assumption) ?_
    refine ⟨congrArg Value.bool ?_, H.keeps⟩
    have h' : m < 2 ^ n := by have := of_decide_eq_true h17; exact_mod_cast this
    have h8 : (n : Int) ≤ 8 := by omega
    simp only [rightN, Int.toNat_natCast, h', h8, decide_true, Bool.true_and, Int.natCast_nonneg]
    rw [Bool.eq_iff_iff, beq_iff_eq, beq_iff_eq]; omega
  · refine cond_no (by assumption) ?_
    iterate 5 refine cond_no (by assumption) ?_
    refine ⟨congrArg Value.bool ?_, H.keeps⟩
    have h' : ¬ m < 2 ^ n := by have := of_decide_eq_false h17; exact_mod_cast this
    simp [rightN, h']
theorem c58 (m v : Nat) (hm : m < 256) (hv : v < 256) (n : Int) (w : World) : Fun Try.prog 58 [cv m v, .int .i64 n] w fun r w' => r = .bool (rightN m v n) ∧ Same w w' := by
  by_cases h : n < 0 ∨ 8 < n
  · have e : rightN m v n = false := by unfold rightN; rcases h with h | h <;> simp <;> omega
    rw [e]; exact c58_b m v n h w
  · obtain ⟨k, rfl⟩ := Int.eq_ofNat_of_zero_le (show 0 ≤ n by omega)
    exact c58_a m v hm hv k (by omega) w
theorem ent169 : enters Try.prog 169 = true := by kernel_rfl
theorem c169 (m v : Nat) (hm : m < 256) (hv : v < 256) (w : World) : Fun Try.prog 169 [cv m v] w fun r w' => r = cv m (v &&& m) ∧ Same w w' := by
  refine fun_of_W (N := 11) Try.func169 ent169 rfl rfl rfl (by simp) ?_
  have H := Hp.start0 w
  refine H.box 46 (cv _ _) (cs := cc _ _) rfl ?_
  clear H
  intro g1 w1 H
  refine H.alloc 46 (cs := cc 0 0) zero46 rfl ?_
  clear H
  intro g2 w2 H
  refine fieldAddr_by (fa46_0 _) ?_
  refine H.load 1 rfl agg5 rfl ?_
  refine fieldAddr_by (fa46_1 _) ?_
  refine H.load 1 rfl agg5 rfl ?_
  refine fieldAddr_by (fa46_0 _) ?_
  refine H.load 1 rfl agg5 rfl ?_
  refine bin_and_u8 (by omega) (by omega) ?_
  refine build46 ?_
  refine H.storeCube 0 rfl ?_
  clear H
  intro w11 H
  refine H.loadAll 0 rfl agg46 size46 ?_
  refine ⟨rfl, ?_⟩
  exact ⟨rfl, H.keeps⟩
theorem ent55 : enters Try.prog 55 = true := by kernel_rfl
theorem c55_b (m v : Nat) (hm : m < 256) (hv : v < 256) (n : Int) (hr : rightN m v n = false) (w : World) : Fun Try.prog 55 [cv m v, .int .i64 n] w fun r w' => r = .tuple #[sv 0, .int .i64 1] ∧ Same w w' := by
  refine fun_of_W (N := 31) Try.func55 ent55 rfl rfl rfl (by simp) ?_
  have H := Hp.start0 w
  refine H.box 46 (cv _ _) (cs := cc _ _) rfl ?_
  clear H
  intro g1 w1 H
  refine H.alloc 24 (cs := sc 0) zero24 sc_zero ?_
  clear H
  intro g2 w2 H
  refine H.loadAll 1 rfl agg46 size46 ?_
  refine call_fn (c58 _ _ (by first | assumption | omega | decide) (by first | assumption | omega | decide) _ _) ?_
  rintro _ w4 ⟨rfl, hk⟩
  replace H := H.same hk
  clear hk
  refine cond_yes (by simp only [*, Bool.not_false, Bool.not_true]) ?_
  refine build24 ?_
  refine H.storeSet 0 rfl ?_
  clear H
  intro w7 H
  refine H.loadAll 0 rfl agg24 size24 ?_
  refine ⟨rfl, ?_⟩
  exact ⟨rfl, H.keeps⟩
def cubeTo (m v k : Nat) : Nat := orAll ((List.range k).filter fun p => p &&& m == v)
theorem cubeTo_succ (m v k : Nat) : cubeTo m v (k + 1) = if k &&& m = v then cubeTo m v k ||| 2 ^ k else cubeTo m v k := by
  unfold cubeTo
  rw [List.range_succ, List.filter_append]
  by_cases h : k &&& m = v
  · rw [if_pos h, List.filter_cons_of_pos (by simpa using h), List.filter_nil, orAll_snoc]
  · rw [if_neg h, List.filter_cons_of_neg (by simpa using h), List.filter_nil, List.append_nil]
theorem c55_a (m v : Nat) (hm : m < 256) (hv : v < 256) (n : Nat) (hn : n ≤ 8) (hr : rightN m v n = true) (w : World) : Fun Try.prog 55 [cv m v, .int .i64 (n : Int)] w fun r w' => r = .tuple #[sv (cubeP m v n), .int .i64 0] ∧ Same w w' := by
  refine fun_of_W (N := 31) Try.func55 ent55 rfl rfl rfl (by simp) ?_
  have H := Hp.start0 w
  have h2 : 2 ^ n ≤ 256 := Nat.le_trans (Nat.pow_le_pow_right (by decide) hn) (show 2 ^ 8 ≤ 256 by decide)
  rw [cubeP_eq m v hn]
  refine H.box 46 (cv _ _) (cs := cc _ _) rfl ?_
  clear H
  intro g1 w1 H
  refine H.alloc 24 (cs := sc 0) zero24 sc_zero ?_
  clear H
  intro g3 w3 H
  refine H.loadAll 1 rfl agg46 size46 ?_
  refine call_fn (c58 _ _ (by first | assumption | omega | decide) (by first | assumption | omega | decide) _ _) ?_
  rintro _ w5 ⟨rfl, hk⟩
  replace H := H.same hk
  clear hk
  refine cond_no (by simp only [*, Bool.not_false, Bool.not_true]) ?_
  refine H.alloc 24 (cs := sc 0) zero24 sc_zero ?_
  clear H
  intro g7 w7 H
  refine bin_one_shl_i64 (by omega) ?_
  generalize 2 ^ n = N at h2 ⊢
  refine loop_rule (γ := Nat) _ rfl (fun i => [(15, .int .i64 (i : Int))]) (fun i w' => i ≤ N ∧ Hp w (fun _ => False) w' [blk g7 24 (sc (cubeTo m v i)), blk g3 24 (sc 0), blk g1 46 (cc m v)] []) (fun i => N - i) 0 ⟨rfl, trivial⟩ ⟨by omega, H⟩ ?_
  clear H
  rintro i u w8 ⟨hi, H⟩
  have hs := cubeTo_succ m v i
  refine cond_dec (fun h4 => ?_) (fun h4 => ?_)
  · refine conv_u8 (by kernel_rfl) Try.underlying5 (by omega) (by omega) ?_
    refine fieldAddr_by (fa46_0 _) ?_
    refine H.load 2 rfl agg5 rfl ?_
    refine bin_and_u8 (by omega) (by omega) ?_
    refine fieldAddr_by (fa46_1 _) ?_
    refine H.load 2 rfl agg5 rfl ?_
    refine cond_dec (fun h14 => ?_) (fun h14 => ?_)
    · refine H.loadAll 0 rfl agg24 size24 ?_
      refine call_fn (c46_yes _ _ (by first | assumption | omega | decide) _) ?_
      rintro _ w16 ⟨rfl, hk⟩
      replace H := H.same hk
      clear hk
      refine H.storeSet 0 rfl ?_
      clear H
      intro w17 H
      refine ⟨i + 1, by omega, ⟨up (by omega), trivial⟩, by omega, ?_⟩
      rw [if_pos (by omega)] at hs
      rw [hs]
      exact H
    · refine ⟨i + 1, by omega, ⟨up (by omega), trivial⟩, by omega, ?_⟩
      rw [if_neg (by omega)] at hs
      rw [hs]
      exact H
  · refine H.loadAll 0 rfl agg24 size24 ?_
    refine H.storeSet 1 rfl ?_
    clear H
    intro w23 H
    refine H.loadAll 1 rfl agg24 size24 ?_
    refine ⟨rfl, ?_⟩
    (obtain rfl : i = N := by omega)
    exact ⟨rfl, H.keeps⟩
theorem c55 (m v : Nat) (hm : m < 256) (hv : v < 256) (n : Int) (w : World) : Fun Try.prog 55 [cv m v, .int .i64 n] w fun r w' => r = (if rightN m v n then .tuple #[sv (cubeP m v n.toNat), .int .i64 0] else .tuple #[sv 0, .int .i64 1]) ∧ Same w w' := by
  cases h : rightN m v n with
  | false => exact c55_b m v hm hv n h w
  | true =>
    have h' := (rightN_iff hm hv).1 h
    obtain ⟨k, rfl⟩ := Int.eq_ofNat_of_zero_le h'.1
    exact c55_a m v hm hv k (by omega) h w
end Go.Proofs.Ytjebpngdinbckaa
end

section
/- Cubes: the functions of package cube, and the document's. -/
namespace Go.Proofs.Ytjebpngdinbckaa
open Go.Dk
attribute [local irreducible] IntKind.wrap

theorem T192 : SlT Try.prog 192 5 (.int .u8 0) 1 1 := ⟨Try.underlying192, by kernel_rfl, rfl, by decide⟩
theorem ints_snoc (l : List Nat) (x : Nat) : ints l ++ [.int .i64 (x : Int)] = ints (l ++ [x]) := by simp [ints]
theorem half_pow (k : IntKind) (x i : Nat) : Value.int k ((x / 2 ^ i / 2 : Nat) : Int) = Value.int k ((x / 2 ^ (i + 1) : Nat) : Int) := by
  rw [Nat.div_div_eq_div_mul, Nat.pow_succ]
theorem bit_mod (m i : Nat) : m / 2 ^ i % 2 = if m.testBit i then 1 else 0 := by
  rw [Nat.testBit_eq_decide_div_mod_eq]
  generalize m / 2 ^ i = q
  by_cases h : q % 2 = 1
  · simp [h]
  · simp [h]; omega
theorem pow_div_lt {m : Nat} (hm : m < 256) (i : Nat) : m / 2 ^ i < 256 := Nat.lt_of_le_of_lt (Nat.div_le_self _ _) hm
theorem madeBytes (n : Nat) : (madeCells (Value.int .u8 0).cells (n * 1)).toList = bytesV (List.replicate n 0) := by
  rw [Nat.mul_one, show (Value.int .u8 0).cells = #[.int .u8 0] from rfl, toList_madeCells_one, bytesV, List.map_replicate]; rfl
def textP (m v n i : Nat) : List UInt8 := textL m v i ++ List.replicate (n - i) 0
theorem textP_length (m v : Nat) {n i : Nat} (hi : i ≤ n) : (textP m v n i).length = n := by simp [textP, textL]; omega
theorem textP_set {m v n i : Nat} (hi : i < n) : (textP m v n i).set i (chN m v i) = textP m v n (i + 1) := by
  unfold textP
  rw [textL_succ, List.set_append_right _ _ (by rw [textL_length]; exact Nat.le_refl _), textL_length, Nat.sub_self, show n - i = (n - (i + 1)) + 1 by omega, List.replicate_succ, List.set_cons_zero]
  simp
theorem bytesV_set (l : List UInt8) (i : Nat) (b : UInt8) : (bytesV l).set i (.int .u8 (b.toNat : Int)) = bytesV (l.set i b) := by simp [bytesV, List.map_set]
theorem cc_set0 {a b a' : Nat} {x : Int} (h : x = (a' : Int)) : (cc a b).setIfInBounds 0 (.int .u8 x) = cc a' b := by subst h; rfl
theorem cc_set1 {a b b' : Nat} {x : Int} (h : x = (b' : Int)) : (cc a b).setIfInBounds 1 (.int .u8 x) = cc a b' := by subst h; rfl
theorem div_pow0 (k : IntKind) (m : Nat) : Value.int k (m : Int) = Value.int k ((m / 2 ^ 0 : Nat) : Int) := by rw [Nat.pow_zero, Nat.div_one]
theorem two_pow8 {i : Nat} (hi : i < 8) : 2 ^ i % 256 = 2 ^ i ∧ 2 ^ i ≤ 128 := by
  have : ∀ i, i < 8 → 2 ^ i % 256 = 2 ^ i ∧ 2 ^ i ≤ 128 := by decide
  exact this i hi
theorem stepM {f : Nat → Bool} {i : Nat} (hi : i < 8) (hf : f i = true) : IntKind.u8.wrap ((mkSet f i : Int) + ((2 ^ i % 256 : Nat) : Int)) = ((mkSet f (i + 1) : Nat) : Int) := by
  have h1 := two_pow8 hi
  have h2 := mkSet_lt f i
  rw [IntKind.wrap_u8, mkSet, hf, h1.1]
  generalize 2 ^ i = p at *
  simp only [if_true]
  omega
theorem stepV {f : Nat → Bool} {i x : Nat} (hi : i < 8) (hx : x < 2) (hf : f i = decide (x = 1)) : IntKind.u8.wrap ((mkSet f i : Int) + IntKind.u8.wrap (((2 ^ i % 256 : Nat) : Int) * (x : Int))) = ((mkSet f (i + 1) : Nat) : Int) := by
  have h1 := two_pow8 hi
  have h2 := mkSet_lt f i
  rw [IntKind.wrap_u8, IntKind.wrap_u8, mkSet, hf, h1.1]
  generalize 2 ^ i = p at *
  rcases (show x = 0 ∨ x = 1 by omega) with rfl | rfl
  · simp; omega
  · simp; omega
theorem stepP {i : Nat} (hi : i < 8) : Value.int .u8 (IntKind.u8.wrap (((2 ^ i % 256 : Nat) : Int) * 2)) = Value.int .u8 ((2 ^ (i + 1) % 256 : Nat) : Int) := by
  have h1 := two_pow8 hi
  rw [IntKind.wrap_u8, h1.1, Nat.pow_succ]
  generalize 2 ^ i = p at *
  congr 1
theorem bit_clear {m i : Nat} (h : ((m / 2 ^ i &&& 1 : Nat) : Int) = 0) : m.testBit i = false := by
  have := bit_u8 m i; rw [beq_iff_eq.2 h] at this; simpa using this.symm
theorem bit_set {m i : Nat} (h : ¬ ((m / 2 ^ i &&& 1 : Nat) : Int) = 0) : m.testBit i = true := by
  have := bit_u8 m i; rw [beq_eq_false_iff_ne.2 h] at this; simpa using this.symm
theorem mod_clear {m i : Nat} (h : ((m / 2 ^ i % 2 : Nat) : Int) = 0) : m.testBit i = false := by
  have := bit_mod m i; rw [show m / 2 ^ i % 2 = 0 by exact_mod_cast h] at this; cases hb : m.testBit i <;> simp_all
theorem mod_set {m i : Nat} (h : ¬ ((m / 2 ^ i % 2 : Nat) : Int) = 0) : m.testBit i = true := by
  have := bit_mod m i
  cases hb : m.testBit i
  · rw [hb] at this; exact absurd (by exact_mod_cast this) h
  · rfl
theorem ent162 : enters Try.prog 162 = true := by kernel_rfl
theorem c162 (m v : Nat) (hm : m < 256) (hv : v < 256) (w : World) : Fun Try.prog 162 [cv m v] w fun r w' => ∃ A c, r = .slice A 8 c ∧ NewR w w' (own 3 1 (.slice A 8 c) 8 (ints (lits m v))) := by
  refine fun_of_W (N := 32) Try.func162 ent162 rfl rfl rfl (by simp) ?_
  have H := Hp.start0 w
  refine H.box 46 (cv _ _) (cs := cc _ _) rfl ?_
  clear H
  intro g1 w1 H
  refine H.draw fol (by kernel_rfl) ?_
  clear H
  intro w2 H
  refine quiet _ (fun w H => fieldAddr_by (fa46_0 _) ⟨rfl, rfl⟩) ?_
  refine quiet _ (fun w H => H.load 0 rfl agg5 rfl ⟨rfl, rfl⟩) ?_
  refine quiet _ (fun w H => fieldAddr_by (fa46_1 _) ⟨rfl, rfl⟩) ?_
  refine quiet _ (fun w H => H.load 0 rfl agg5 rfl ⟨rfl, rfl⟩) ?_
  have H := H.ownNil 3 1
  refine loop_rule (γ := Nat × Option Addr × Nat) _ rfl (fun (i, A, c) => [(6, .int .i64 (i : Int)), (4, .int .u8 ((m / 2 ^ i : Nat) : Int)), (5, .int .u8 ((v / 2 ^ i : Nat) : Int)), (3, .slice A i c)])
    (fun (i, A, c) w' => i ≤ 8 ∧ Hp w (fun _ => False) w' [own 3 1 (.slice A i c) i (ints (litsTo m v i)), blk g1 46 (cc m v)] []) (fun (i, _, _) => 8 - i) (0, none, 0) ⟨rfl, div_pow0 _ _, div_pow0 _ _, rfl, trivial⟩ ⟨by omega, H⟩ ?_
  clear H
  rintro ⟨i, A, c⟩ u w8 ⟨hi, H⟩
  have hm' := pow_div_lt hm i
  have hv' := pow_div_lt hv i
  have hbm := bit_mod m i
  have hbv := bit_mod v i
  have hls := litsTo_succ m v i
  refine cond_dec (fun h3 => ?_) (fun h3 => ?_)
  · refine bin_by_eq rfl (y' := ((2 : Nat) : Int)) rfl (bin_rem_u8 (by omega) ?_)
    refine cond_dec (fun h5 => ?_) (fun h5 => ?_)
    · refine H.buildOne T32 rfl ?_
      clear H
      intro g6 w6 H
      refine H.appendOne 0 T32 rfl rfl (by omega) (by omega) ?_
      clear H
      intro A7 k7 w7 H
      iterate 2 refine bin_by_eq rfl (y' := ((2 : Nat) : Int)) rfl (bin_quo_u8 (by first | assumption | omega) (by omega) ?_)
      refine ⟨(i + 1, _, _), by show 8 - (i + 1) < 8 - i; omega, ⟨up (by omega), half_pow _ _ _, half_pow _ _ _, rfl, trivial⟩, by show i + 1 ≤ 8; omega, ?_⟩
      have e : litN m v i = 2 := by rw [litN, mod_clear h5]; rfl
      rw [show (2 : Int) = ((2 : Nat) : Int) from rfl, ← e, ints_snoc, ← hls] at H
      exact H
    · refine bin_by_eq rfl (y' := ((2 : Nat) : Int)) rfl (bin_rem_u8 (by omega) ?_)
      refine conv_i64 (by kernel_rfl) Try.underlying3 (by omega) (by omega) ?_
      refine H.buildOne T32 rfl ?_
      clear H
      intro g14 w14 H
      refine H.appendOne 0 T32 rfl rfl (by omega) (by omega) ?_
      clear H
      intro A15 k15 w15 H
      iterate 2 refine bin_by_eq rfl (y' := ((2 : Nat) : Int)) rfl (bin_quo_u8 (by first | assumption | omega) (by omega) ?_)
      refine ⟨(i + 1, _, _), by show 8 - (i + 1) < 8 - i; omega, ⟨up (by omega), half_pow _ _ _, half_pow _ _ _, rfl, trivial⟩, by show i + 1 ≤ 8; omega, ?_⟩
      have e : litN m v i = v / 2 ^ i % 2 := by rw [litN, mod_set h5, if_pos rfl, hbv]
      rw [← e, ints_snoc, ← hls] at H
      exact H
  · obtain rfl : i = 8 := by omega
    exact ⟨A, c, rfl, H.out⟩
theorem ent56 : enters Try.prog 56 = true := by kernel_rfl
theorem c56_b (m v : Nat) (hm : m < 256) (hv : v < 256) (n : Int) (hr : rightN m v n = false) (w : World) : Fun Try.prog 56 [cv m v, .int .i64 n] w fun r w' => r = .tuple #[strV [], .int .i64 1] ∧ Same w w' := by
  refine fun_of_W (N := 45) Try.func56 ent56 rfl rfl rfl (by simp) ?_
  have H := Hp.start0 w
  refine H.box 46 (cv _ _) (cs := cc _ _) rfl ?_
  clear H
  intro g1 w1 H
  refine H.loadAll 0 rfl agg46 size46 ?_
  refine call_fn (c58 _ _ (by first | assumption | omega | decide) (by first | assumption | omega | decide) _ _) ?_
  rintro _ w3 ⟨rfl, hk⟩
  replace H := H.same hk
  clear hk
  refine cond_yes (by simp only [*, Bool.not_false, Bool.not_true]) ?_
  exact ⟨rfl, H.keeps⟩
theorem c56_a (m v : Nat) (hm : m < 256) (hv : v < 256) (n : Nat) (hn : n ≤ 8) (hr : rightN m v n = true) (w : World) : Fun Try.prog 56 [cv m v, .int .i64 (n : Int)] w fun r w' => r = .tuple #[strV (textL m v n), .int .i64 0] ∧ Same w w' := by
  refine fun_of_W (N := 45) Try.func56 ent56 rfl rfl rfl (by simp) ?_
  have H := Hp.start0 w
  refine H.box 46 (cv _ _) (cs := cc _ _) rfl ?_
  clear H
  intro g1 w1 H
  refine H.loadAll 0 rfl agg46 size46 ?_
  refine call_fn (c58_a _ _ (by first | assumption | omega | decide) (by first | assumption | omega | decide) _ (by first | assumption | omega | decide) _) ?_
  rintro _ w3 ⟨rfl, hk⟩
  replace H := H.same hk
  clear hk
  refine cond_no (by simp only [*, Bool.not_false, Bool.not_true]) ?_
  refine H.make T192 n rfl rfl (by omega) (by omega) ?_
  clear H
  intro g5 w5 H
  rw [madeBytes] at H
  refine len_sl Try.underlying192 ?_
  refine loop_rule (γ := Nat) _ rfl (fun i => [(16, .int .i64 (i : Int))])
    (fun i w' => i ≤ n ∧ Hp w (fun _ => False) w' [own 5 1 (.slice (some ⟨g5, 0, none⟩) n n) n (bytesV (textP m v n i)), blk g1 46 (cc m v)] []) (fun i => n - i) 0 ⟨rfl, trivial⟩ ⟨by omega, H⟩ ?_
  clear H
  rintro i u w8 ⟨hi, H⟩
  have hm' := pow_div_lt hm i
  have hv' := pow_div_lt hv i
  have hb := bit_u8 m i
  have hb2 := bit_u8 v i
  have hlen := textP_length m v hi
  refine cond_dec (fun h2 => ?_) (fun h2 => ?_)
  · refine fieldAddr_by (fa46_0 _) ?_
    refine H.load 1 rfl agg5 rfl ?_
    refine bin_shr_u8 (by omega) ?_
    refine bin_by_eq rfl (y' := ((1 : Nat) : Int)) rfl (bin_and_u8 (by first | assumption | omega) (by omega) ?_)
    refine cond_dec (fun h6 => ?_) (fun h6 => ?_)
    · refine idxAddr_sl Try.underlying192 (s := 1) (by kernel_rfl) _ rfl (by first | omega | decide | (simp only [IntKind.wrap_i64]; omega) | (simp; done) | (simp; omega)) (o' := _) (by rw [Nat.zero_add, Nat.mul_one]) ?_
      have hmb := bit_clear h6
      refine H.storeOwn 0 rfl size5 (by rw [bytesV_length]; omega) rfl ?_
      clear H
      intro w9 H
      refine ⟨i + 1, by omega, ⟨up (by omega), trivial⟩, by omega, ?_⟩
      rw [← textP_set (by omega), show chN m v i = 45 from by simp [chN, hmb], ← bytesV_set]
      exact H
    · refine fieldAddr_by (fa46_1 _) ?_
      refine H.load 1 rfl agg5 rfl ?_
      refine bin_shr_u8 (by omega) ?_
      refine bin_by_eq rfl (y' := ((1 : Nat) : Int)) rfl (bin_and_u8 (by first | assumption | omega) (by omega) ?_)
      refine cond_dec (fun h14 => ?_) (fun h14 => ?_)
      · refine idxAddr_sl Try.underlying192 (s := 1) (by kernel_rfl) _ rfl (by first | omega | decide | (simp only [IntKind.wrap_i64]; omega) | (simp; done) | (simp; omega)) (o' := _) (by rw [Nat.zero_add, Nat.mul_one]) ?_
        have hmb := bit_set h6
        have hvb := bit_clear h14
        refine H.storeOwn 0 rfl size5 (by rw [bytesV_length]; omega) rfl ?_
        clear H
        intro w9 H
        refine ⟨i + 1, by omega, ⟨up (by omega), trivial⟩, by omega, ?_⟩
        rw [← textP_set (by omega), show chN m v i = 48 from by simp [chN, hmb, hvb], ← bytesV_set]
        exact H
      · refine idxAddr_sl Try.underlying192 (s := 1) (by kernel_rfl) _ rfl (by first | omega | decide | (simp only [IntKind.wrap_i64]; omega) | (simp; done) | (simp; omega)) (o' := _) (by rw [Nat.zero_add, Nat.mul_one]) ?_
        have hmb := bit_set h6
        have hvb := bit_set h14
        refine H.storeOwn 0 rfl size5 (by rw [bytesV_length]; omega) rfl ?_
        clear H
        intro w9 H
        refine ⟨i + 1, by omega, ⟨up (by omega), trivial⟩, by omega, ?_⟩
        rw [← textP_set (by omega), show chN m v i = 49 from by simp [chN, hmb, hvb], ← bytesV_set]
        exact H
  · refine H.bytesStr 0 Try.underlying192 Try.underlying5 Try.underlying9 rfl ?_
    obtain rfl : i = n := by omega
    have e : textP m v i i = textL m v i := by simp [textP]
    rw [e]
    exact ⟨rfl, H.keeps⟩
theorem ent163 : enters Try.prog 163 = true := by kernel_rfl
theorem c163 (l : List Nat) (hl : l.length ≤ 8) (h2 : ∀ x ∈ l, x ≤ 2) (A : Option Addr) (c : Nat) (w : World) (hs : Sl w (.slice A l.length c) 1 l.length (ints l)) : Fun Try.prog 163 [.slice A l.length c] w fun r w' => r = cv (cubeM l) (cubeV l) ∧ Same w w' := by
  refine fun_of_W (N := 36) Try.func163 ent163 rfl rfl rfl (by simp) ?_
  have H := Hp.start0 w
  refine H.alloc 46 (cs := cc 0 0) zero46 rfl ?_
  clear H
  intro g1 w1 H
  refine H.alloc 46 (cs := cc 0 0) zero46 rfl ?_
  clear H
  intro g3 w3 H
  refine loop_rule (γ := Nat) _ rfl (fun i => [(5, .int .i64 (i : Int)), (4, .int .u8 ((2 ^ i % 256 : Nat) : Int))])
    (fun i w' => i ≤ l.length ∧ Hp w (fun _ => False) w' [blk g3 46 (cc (mkSet (fun j => decide (l.getD j 2 < 2)) i) (mkSet (fun j => decide (l.getD j 2 = 1)) i)), blk g1 46 (cc 0 0)] []) (fun i => l.length - i) 0 ⟨rfl, rfl, trivial⟩ ⟨by omega, H⟩ ?_
  clear H
  rintro i u w8 ⟨hi, H⟩
  refine len_sl Try.underlying32 ?_
  refine cond_dec (fun h5 => ?_) (fun h5 => ?_)
  · (obtain ⟨g6, o6, rfl⟩ := hs.A (by omega))
    refine idxAddr_sl Try.underlying32 (s := 1) (by kernel_rfl) _ rfl (by first | omega | decide | (simp only [IntKind.wrap_i64]; omega) | (simp; done) | (simp; omega)) (o' := _) (by rw [Nat.mul_one]) ?_
    refine H.loadSl hs agg3 _ rfl (ints_get (by omega)) ?_
    refine cond_dec (fun h10 => ?_) (fun h10 => ?_)
    · refine fieldAddr_by (fa46_0 _) ?_
      refine H.load 0 rfl agg5 rfl ?_
      refine fieldAddr_by (fa46_0 _) ?_
      refine H.store 0 rfl size5 (Nat.le_of_ble_eq_true rfl) rfl ?_
      clear H
      intro w4 H
      refine H.draw fol (by kernel_rfl) ?_
      clear H
      intro w7 H
      refine quiet _ (fun w H => fieldAddr_by (fa46_1 _) ⟨rfl, rfl⟩) ?_
      refine quiet _ (fun w H => H.load 0 rfl agg5 rfl ⟨rfl, rfl⟩) ?_
      refine quiet _ (fun w H => idxAddr_sl Try.underlying32 (s := 1) (by kernel_rfl) _ rfl (by first | omega | decide | (simp only [IntKind.wrap_i64]; omega) | (simp; done) | (simp; omega)) (o' := _) (by rw [Nat.mul_one]) ⟨rfl, rfl⟩) ?_
      refine quiet _ (fun w H => H.loadSl hs agg3 _ rfl (ints_get (by omega)) ⟨rfl, rfl⟩) ?_
      refine quiet _ (fun w H => conv_u8 (by kernel_rfl) Try.underlying5 (by omega) (by omega) ⟨rfl, rfl⟩) ?_
      refine quiet _ (fun w H => fieldAddr_by (fa46_1 _) ⟨rfl, rfl⟩) ?_
      refine H.store 0 rfl size5 (Nat.le_of_ble_eq_true rfl) rfl ?_
      clear H
      intro w16 H
      refine ⟨.inr rfl, ?_⟩
      have hg : l.getD i 2 = l[i] := by simp [List.getD_eq_getElem?_getD, (by omega : i < l.length)]
      refine ⟨i + 1, by omega, ⟨up (by omega), stepP (by omega), trivial⟩, by omega, ?_⟩
      simp only [List.set_cons_zero] at H
      rw [cc_set0 (stepM (by omega) (by show decide (l.getD i 2 < 2) = true; rw [hg]; exact decide_eq_true (by omega))), cc_set1 (stepV (x := l[i]) (by omega) (by omega) (by show decide (l.getD i 2 = 1) = _; rw [hg]))] at H
      exact H
    · have hg : l.getD i 2 = l[i] := by simp [List.getD_eq_getElem?_getD, (by omega : i < l.length)]
      have hx := h2 l[i] (List.getElem_mem _)
      refine ⟨i + 1, by omega, ⟨up (by omega), stepP (by omega), trivial⟩, by omega, ?_⟩
      have e1 : mkSet (fun j => decide (l.getD j 2 < 2)) (i + 1) = mkSet (fun j => decide (l.getD j 2 < 2)) i := by
        rw [mkSet, hg, if_neg (by simp; omega)]; rfl
      have e2 : mkSet (fun j => decide (l.getD j 2 = 1)) (i + 1) = mkSet (fun j => decide (l.getD j 2 = 1)) i := by
        rw [mkSet, hg, if_neg (by simp; omega)]; rfl
      rw [e1, e2]
      exact H
  · refine H.loadAll 0 rfl agg46 size46 ?_
    refine H.storeCube 1 rfl ?_
    clear H
    intro w17 H
    refine H.loadAll 1 rfl agg46 size46 ?_
    refine ⟨rfl, ?_⟩
    obtain rfl : i = l.length := by omega
    exact ⟨rfl, H.keeps⟩
end Go.Proofs.Ytjebpngdinbckaa
end

section
/- Cubes: the document's answers. -/
namespace Go.Proofs.Ytjebpngdinbckaa
open Go.Dk
attribute [local irreducible] IntKind.wrap

theorem bin_eql46 {a b c d : Nat} {xo yo : Operand} {w : World} {kk : Value → World → Prop} (h : kk (.bool (a == c && b == d)) w) : binK Try.prog .eql 46 xo yo (cv a b) (cv c d) w kk :=
  bin_eql_agg egt46 (fun w => run_eq46 a b c d w) h
theorem bin_neq46 {a b c d : Nat} {xo yo : Operand} {w : World} {kk : Value → World → Prop} (h : kk (.bool (!(a == c && b == d))) w) : binK Try.prog .neq 46 xo yo (cv a b) (cv c d) w kk :=
  bin_neq_agg egt46 (fun w => run_eq46 a b c d w) h

theorem cast_beq0 (a : Nat) : (((a : Nat) : Int) == 0) = (a == 0) := by
  rw [Bool.eq_iff_iff, beq_iff_eq, beq_iff_eq]; omega
theorem popc_le8 {m : Nat} (hm : m < 256) : popc m ≤ 8 := popc_le 8 m hm
theorem pred_u8 {x : Nat} (hx : x < 256) (h : 0 < x) : IntKind.u8.wrap ((x : Int) - 1) = ((x - 1 : Nat) : Int) := by rw [IntKind.wrap_u8]; omega

/-! ### What two cubes have -/
theorem ent75 : enters Try.prog 75 = true := by kernel_rfl
theorem c75 (m v x y : Nat) (hm : m < 256) (hv : v < 256) (hx : x < 256) (hy : y < 256) (w : World) : Fun Try.prog 75 [cv m v, cv x y] w fun r w' => r = (if meetB m v x y then .tuple #[cv (meetM m x) (meetV m v x y), .bool true] else .tuple #[cv 0 0, .bool false]) ∧ Same w w' := by
  refine fun_of_W (N := 34) Try.func75 ent75 rfl rfl rfl (by simp) ?_
  have H := Hp.start0 w
  refine H.box 46 (cv _ _) (cs := cc _ _) rfl ?_
  clear H
  intro g1 w1 H
  refine H.box 46 (cv _ _) (cs := cc _ _) rfl ?_
  clear H
  intro g2 w2 H
  refine H.alloc 46 (cs := cc 0 0) zero46 rfl ?_
  clear H
  intro g3 w3 H
  refine fieldAddr_by (fa46_1 _) ?_
  refine H.load 2 rfl agg5 rfl ?_
  refine fieldAddr_by (fa46_1 _) ?_
  refine H.load 1 rfl agg5 rfl ?_
  refine bin_xor_u8 (by first | assumption | omega | (repeat' (first | assumption | refine and_lt8 ?_ _ | refine xor_lt8 ?_ ?_ | refine or_lt8 ?_ ?_))) (by first | assumption | omega | (repeat' (first | assumption | refine and_lt8 ?_ _ | refine xor_lt8 ?_ ?_ | refine or_lt8 ?_ ?_))) ?_
  refine fieldAddr_by (fa46_0 _) ?_
  refine H.load 2 rfl agg5 rfl ?_
  refine bin_and_u8 (by first | assumption | omega | (repeat' (first | assumption | refine and_lt8 ?_ _ | refine xor_lt8 ?_ ?_ | refine or_lt8 ?_ ?_))) (by first | assumption | omega | (repeat' (first | assumption | refine and_lt8 ?_ _ | refine xor_lt8 ?_ ?_ | refine or_lt8 ?_ ?_))) ?_
  refine fieldAddr_by (fa46_0 _) ?_
  refine H.load 1 rfl agg5 rfl ?_
  refine bin_and_u8 (by first | assumption | omega | (repeat' (first | assumption | refine and_lt8 ?_ _ | refine xor_lt8 ?_ ?_ | refine or_lt8 ?_ ?_))) (by first | assumption | omega | (repeat' (first | assumption | refine and_lt8 ?_ _ | refine xor_lt8 ?_ ?_ | refine or_lt8 ?_ ?_))) ?_
  refine cond_bne (fun h15 => ?_) (fun h15 => ?_)
  · refine build46z ?_
    refine H.storeCube 0 rfl ?_
    clear H
    intro w17 H
    refine H.loadAll 0 rfl agg46 size46 ?_
    refine ⟨rfl, ?_⟩
    have e : meetB m v x y = false := by unfold meetB; rw [beq_eq_false_iff_ne]; exact fun e => h15 (by rw [e]; rfl)
    refine ⟨?_, H.keeps⟩
    rw [e]; rfl
  · refine H.draw fol (by kernel_rfl) ?_
    clear H
    intro w21 H
    refine quiet _ (fun w H => H.loadAll 2 rfl agg46 size46 ⟨rfl, rfl⟩) ?_
    refine call_fn (c169 _ _ (by first | assumption | omega | decide) (by first | assumption | omega | decide) _) ?_
    rintro _ w23 ⟨rfl, hk⟩
    replace H := H.same hk
    clear hk
    refine ⟨.inl H, ?_⟩
    refine quiet _ (fun w H => H.loadAll 1 rfl agg46 size46 ⟨rfl, rfl⟩) ?_
    refine call_fn (c169 _ _ (by first | assumption | omega | decide) (by first | assumption | omega | decide) _) ?_
    rintro _ w26 ⟨rfl, hk⟩
    replace H := H.same hk
    clear hk
    refine ⟨.inl H, ?_⟩
    refine H.storeCube 2 rfl ?_
    clear H
    intro w28 H
    refine ⟨.inr rfl, ?_⟩
    refine H.storeCube 1 rfl ?_
    clear H
    intro w30 H
    refine ⟨.inr rfl, ?_⟩
    refine fieldAddr_by (fa46_0 _) ?_
    refine H.load 2 rfl agg5 rfl ?_
    refine fieldAddr_by (fa46_0 _) ?_
    refine H.load 1 rfl agg5 rfl ?_
    refine bin_or_u8 (by first | assumption | omega | (repeat' (first | assumption | refine and_lt8 ?_ _ | refine xor_lt8 ?_ ?_ | refine or_lt8 ?_ ?_))) (by first | assumption | omega | (repeat' (first | assumption | refine and_lt8 ?_ _ | refine xor_lt8 ?_ ?_ | refine or_lt8 ?_ ?_))) ?_
    refine fieldAddr_by (fa46_1 _) ?_
    refine H.load 2 rfl agg5 rfl ?_
    refine fieldAddr_by (fa46_1 _) ?_
    refine H.load 1 rfl agg5 rfl ?_
    refine bin_or_u8 (by first | assumption | omega | (repeat' (first | assumption | refine and_lt8 ?_ _ | refine xor_lt8 ?_ ?_ | refine or_lt8 ?_ ?_))) (by first | assumption | omega | (repeat' (first | assumption | refine and_lt8 ?_ _ | refine xor_lt8 ?_ ?_ | refine or_lt8 ?_ ?_))) ?_
    refine build46 ?_
    refine H.storeCube 0 rfl ?_
    clear H
    intro w43 H
    refine H.loadAll 0 rfl agg46 size46 ?_
    refine ⟨rfl, ?_⟩
    have e : meetB m v x y = true := by unfold meetB; rw [beq_iff_eq]; exact Int.natCast_eq_zero.1 h15
    refine ⟨?_, H.keeps⟩
    rw [e]; rfl
theorem ent76 : enters Try.prog 76 = true := by kernel_rfl
theorem c76 (m v : Nat) (hm : m < 256) (w : World) : Fun Try.prog 76 [cv m v] w fun r w' => r = .int .i64 (popc m : Int) ∧ Same w w' := by
  refine fun_of_W (N := 16) Try.func76 ent76 rfl rfl rfl (by simp) ?_
  have H := Hp.start0 w
  refine H.box 46 (cv _ _) (cs := cc _ _) rfl ?_
  clear H
  intro g1 w1 H
  refine fieldAddr_by (fa46_0 _) ?_
  refine H.load 0 rfl agg5 rfl ?_
  refine loop_rule (γ := Nat × Nat) _ rfl (fun (x, n) => [(4, .int .u8 (x : Int)), (3, .int .i64 (n : Int))])
    (fun (x, n) w' => (x < 256 ∧ n + popc x = popc m) ∧ Hp w (fun _ => False) w' [blk g1 46 (cc m v)] []) (fun (x, _) => x) (m, 0) ⟨rfl, rfl, trivial⟩ ⟨⟨hm, by omega⟩, H⟩ ?_
  have hp8 := popc_le8 hm
  clear H
  rintro ⟨x, n⟩ u w8 ⟨⟨hx, hn⟩, H⟩
  refine cond_dec (fun h2 => ?_) (fun h2 => ?_)
  · have hx0 : 0 < x := by omega
    refine bin_by_eq rfl (pred_u8 hx hx0) (bin_and_u8 hx (by omega) ?_)
    have hpp := popc_and_pred (w := x) (by omega)
    have hle : x &&& (x - 1) ≤ x - 1 := Nat.and_le_right
    refine ⟨(x &&& (x - 1), n + 1), by show x &&& (x - 1) < x; omega, ⟨rfl, up (by omega), trivial⟩, ⟨by show x &&& (x - 1) < 256; omega, by show n + 1 + popc (x &&& (x - 1)) = popc m; omega⟩, H⟩
  · obtain rfl : x = 0 := by omega
    rw [popc_zero] at hn
    obtain rfl : n = popc m := by omega
    exact ⟨rfl, H.keeps⟩
theorem ent77 : enters Try.prog 77 = true := by kernel_rfl
theorem c77 (m v x y : Nat) (hm : m < 256) (hv : v < 256) (hx : x < 256) (hy : y < 256) (w : World) : Fun Try.prog 77 [cv m v, cv x y] w fun r w' => r = cv (joinM m v x y) (v &&& joinM m v x y) ∧ Same w w' := by
  refine fun_of_W (N := 20) Try.func77 ent77 rfl rfl rfl (by simp) ?_
  have H := Hp.start0 w
  refine H.box 46 (cv _ _) (cs := cc _ _) rfl ?_
  clear H
  intro g1 w1 H
  refine H.box 46 (cv _ _) (cs := cc _ _) rfl ?_
  clear H
  intro g2 w2 H
  refine H.alloc 46 (cs := cc 0 0) zero46 rfl ?_
  clear H
  intro g3 w3 H
  refine fieldAddr_by (fa46_0 _) ?_
  refine H.load 2 rfl agg5 rfl ?_
  refine fieldAddr_by (fa46_0 _) ?_
  refine H.load 1 rfl agg5 rfl ?_
  refine bin_and_u8 (by first | assumption | omega | (repeat' (first | assumption | refine and_lt8 ?_ _ | refine xor_lt8 ?_ ?_ | refine or_lt8 ?_ ?_))) (by first | assumption | omega | (repeat' (first | assumption | refine and_lt8 ?_ _ | refine xor_lt8 ?_ ?_ | refine or_lt8 ?_ ?_))) ?_
  refine fieldAddr_by (fa46_1 _) ?_
  refine H.load 2 rfl agg5 rfl ?_
  refine fieldAddr_by (fa46_1 _) ?_
  refine H.load 1 rfl agg5 rfl ?_
  refine bin_xor_u8 (by first | assumption | omega | (repeat' (first | assumption | refine and_lt8 ?_ _ | refine xor_lt8 ?_ ?_ | refine or_lt8 ?_ ?_))) (by first | assumption | omega | (repeat' (first | assumption | refine and_lt8 ?_ _ | refine xor_lt8 ?_ ?_ | refine or_lt8 ?_ ?_))) ?_
  refine bin_andNot_u8 (by first | assumption | omega | (repeat' (first | assumption | refine and_lt8 ?_ _ | refine xor_lt8 ?_ ?_ | refine or_lt8 ?_ ?_))) (by first | assumption | omega | (repeat' (first | assumption | refine and_lt8 ?_ _ | refine xor_lt8 ?_ ?_ | refine or_lt8 ?_ ?_))) ?_
  refine fieldAddr_by (fa46_1 _) ?_
  refine H.load 2 rfl agg5 rfl ?_
  refine build46 ?_
  refine call_fn (c169 _ _ (by first | assumption | omega | decide | (repeat' (first | assumption | refine and_lt8 ?_ _ | refine xor_lt8 ?_ ?_ | refine or_lt8 ?_ ?_))) (by first | assumption | omega | decide | (repeat' (first | assumption | refine and_lt8 ?_ _ | refine xor_lt8 ?_ ?_ | refine or_lt8 ?_ ?_))) _) ?_
  rintro _ w4 ⟨rfl, hk⟩
  replace H := H.same hk
  clear hk
  refine H.storeCube 0 rfl ?_
  clear H
  intro w5 H
  refine H.loadAll 0 rfl agg46 size46 ?_
  refine ⟨rfl, ?_⟩
  exact ⟨rfl, H.keeps⟩
theorem ent78 : enters Try.prog 78 = true := by kernel_rfl
theorem c78 (m v x y : Nat) (hm : m < 256) (hv : v < 256) (hx : x < 256) (hy : y < 256) (w : World) : Fun Try.prog 78 [cv m v, cv x y] w fun r w' => r = .bool (holdsB m v x y) ∧ Same w w' := by
  refine fun_of_W (N := 22) Try.func78 ent78 rfl rfl rfl (by simp) ?_
  have H := Hp.start0 w
  refine H.box 46 (cv _ _) (cs := cc _ _) rfl ?_
  clear H
  intro g1 w1 H
  refine H.box 46 (cv _ _) (cs := cc _ _) rfl ?_
  clear H
  intro g2 w2 H
  refine fieldAddr_by (fa46_0 _) ?_
  refine H.load 1 rfl agg5 rfl ?_
  refine fieldAddr_by (fa46_0 _) ?_
  refine H.load 0 rfl agg5 rfl ?_
  refine bin_andNot_u8 (by first | assumption | omega | (repeat' (first | assumption | refine and_lt8 ?_ _ | refine xor_lt8 ?_ ?_ | refine or_lt8 ?_ ?_))) (by first | assumption | omega | (repeat' (first | assumption | refine and_lt8 ?_ _ | refine xor_lt8 ?_ ?_ | refine or_lt8 ?_ ?_))) ?_
  refine cond_dec (fun h8 => ?_) (fun h8 => ?_)
  · refine fieldAddr_by (fa46_1 _) ?_
    refine cond_yes (decide_eq_true (by assumption)) ?_
    refine H.load 1 rfl agg5 rfl ?_
    refine cond_yes (decide_eq_true (by assumption)) ?_
    refine fieldAddr_by (fa46_1 _) ?_
    refine cond_yes (decide_eq_true (by assumption)) ?_
    refine H.load 0 rfl agg5 rfl ?_
    refine cond_yes (decide_eq_true (by assumption)) ?_
    refine bin_xor_u8 (by first | assumption | omega | (repeat' (first | assumption | refine and_lt8 ?_ _ | refine xor_lt8 ?_ ?_ | refine or_lt8 ?_ ?_))) (by first | assumption | omega | (repeat' (first | assumption | refine and_lt8 ?_ _ | refine xor_lt8 ?_ ?_ | refine or_lt8 ?_ ?_))) ?_
    refine cond_yes (decide_eq_true (by assumption)) ?_
    refine fieldAddr_by (fa46_0 _) ?_
    refine cond_yes (decide_eq_true (by assumption)) ?_
    refine H.load 1 rfl agg5 rfl ?_
    refine cond_yes (decide_eq_true (by assumption)) ?_
    refine bin_and_u8 (by first | assumption | omega | (repeat' (first | assumption | refine and_lt8 ?_ _ | refine xor_lt8 ?_ ?_ | refine or_lt8 ?_ ?_))) (by first | assumption | omega | (repeat' (first | assumption | refine and_lt8 ?_ _ | refine xor_lt8 ?_ ?_ | refine or_lt8 ?_ ?_))) ?_
    iterate 2 refine cond_yes (decide_eq_true (by assumption)) ?_
    refine ⟨congrArg Value.bool ?_, H.keeps⟩
    unfold holdsB
    rw [beq_iff_eq.2 (Int.natCast_eq_zero.1 h8), cast_beq0]; rfl
  · refine cond_no (decide_eq_false (by assumption)) ?_
    iterate 8 refine cond_no (decide_eq_false (by assumption)) ?_
    refine ⟨congrArg Value.bool ?_, H.keeps⟩
    unfold holdsB
    rw [beq_eq_false_iff_ne.2 (fun e => h8 (by rw [e]; rfl))]; rfl
end Go.Proofs.Ytjebpngdinbckaa
end

section
/- Cubes: the document's answers, and texts. -/
namespace Go.Proofs.Ytjebpngdinbckaa
open Go.Dk
attribute [local irreducible] IntKind.wrap

theorem lits_int {m v i : Nat} (hi : i < 8) : (ints (lits m v))[i]? = some (.int .i64 (litN m v i : Int)) := by
  rw [ints_get (by rw [litsTo_length]; exact hi)]; simp [litsTo]
/-- The flags of a cube's points, of those below k. -/
def ptsF (m v n k : Nat) : List Bool := (List.range 256).map fun p => decide (p < 2 ^ n) && (decide (k ≤ p) || hasC m v p)
theorem ptsF_zero (m v n : Nat) : ptsF m v n 0 = allFlags n := by simp [ptsF, allFlags]
theorem ptsF_length (m v n k : Nat) : (ptsF m v n k).length = 256 := by simp [ptsF]
theorem ptsF_get {m v n k : Nat} (hk : k < 256) : (bls (ptsF m v n k))[k]? = some (.bool (decide (k < 2 ^ n))) := by
  rw [bls_get (by rw [ptsF_length]; exact hk)]; simp [ptsF]
theorem ptsF_set {m v n k : Nat} (hk : k < 256) : (ptsF m v n k).set k (decide (k < 2 ^ n) && hasC m v k) = ptsF m v n (k + 1) := by
  apply List.ext_getElem (by simp [ptsF])
  intro p h1 h2
  rw [List.getElem_set]
  simp only [ptsF, List.getElem_map, List.getElem_range]
  by_cases h : k = p
  · subst h
    rw [if_pos rfl, decide_eq_false (show ¬ k + 1 ≤ k by omega), Bool.false_or]
  · have : k ≤ p ↔ k + 1 ≤ p := by omega
    simp [h, this]
theorem ptsF_all (m v n : Nat) : ofFlags (ptsF m v n 256) = setOf (fun p => decide (p < 2 ^ n) && hasC m v p) := by
  refine set_ext (setOf_lt _) (setOf_lt _) fun p hp => ?_
  rw [testBit_ofFlags, testBit_setOf]
  simp only [hp, ptsF, decide_true, Bool.true_and, List.getD_eq_getElem?_getD, List.getElem?_map, List.getElem?_range, Option.map_some, Option.getD_some]
  rw [decide_eq_false (show ¬ 256 ≤ p by omega), Bool.false_or]
theorem T195 : SlT Try.prog 195 9 (.string ⟨#[]⟩) 1 16 := ⟨Try.underlying195, by kernel_rfl, rfl, by decide⟩
theorem agg9 : aggT Try.prog 9 = some false := by kernel_rfl
theorem size9 : sizeT Try.prog 9 = some 1 := by kernel_rfl
theorem lit_ch (m v i : Nat) : (#[Value.string ⟨#[48]⟩, Value.string ⟨#[49]⟩, Value.string ⟨#[45]⟩] : Array Value)[litN m v i]? = some (strV [chN m v i]) := by
  unfold litN chN strV
  cases m.testBit i <;> cases v.testBit i <;> rfl
theorem bls_set (l : List Bool) (i : Nat) (b : Bool) : bls (l.set i b) = (bls l).set i (.bool b) := by simp [bls, List.map_set]
theorem lit_set {m v i : Nat} (h : ((litN m v i : Nat) : Int) ≠ 2) : m.testBit i = true := by
  cases hb : m.testBit i
  · exact absurd (by rw [litN_two.2 hb]; rfl) h
  · rfl
theorem lit_vs {m v p i : Nat} (hm : m.testBit i = true) : ((litN m v i : Nat) : Int) = ((p / 2 ^ i % 2 : Nat) : Int) ↔ v.testBit i = p.testBit i := by
  rw [bit_mod]; unfold litN; rw [hm]
  cases v.testBit i <;> cases p.testBit i <;> simp
theorem ent57 : enters Try.prog 57 = true := by kernel_rfl
theorem c57_b (m v : Nat) (n : Int) (hn : n < 0 ∨ 8 < n) (w : World) : Fun Try.prog 57 [cv m v, .int .i64 n] w fun r w' => r = .bool false ∧ Same w w' := by
  refine fun_of_W (N := 29) Try.func57 ent57 rfl rfl rfl (by simp) ?_
  have H := Hp.start0 w
  refine H.box 46 (cv _ _) (cs := cc _ _) rfl ?_
  clear H
  intro g1 w1 H
  refine cond_dec (fun h2 => ?_) (fun h2 => ?_)
  · refine cond_yes (decide_eq_true (by assumption)) ?_
    refine cond_yes (decide_eq_true (by assumption)) ?_
    refine cond_yes rfl ?_
    exact ⟨rfl, H.keeps⟩
  · refine cond_no (decide_eq_false (by assumption)) ?_
    refine cond_no (decide_eq_false (by assumption)) ?_
    refine cond_yes (decide_eq_true (by omega)) ?_
    exact ⟨rfl, H.keeps⟩
theorem c57_a (m v : Nat) (hm : m < 256) (hv : v < 256) (n : Nat) (hn : n ≤ 8) (w : World) : Fun Try.prog 57 [cv m v, .int .i64 (n : Int)] w fun r w' => r = .bool (rightN m v n) ∧ Same w w' := by
  refine fun_of_W (N := 29) Try.func57 ent57 rfl rfl rfl (by simp) ?_
  have H := Hp.start0 w
  refine H.box 46 (cv _ _) (cs := cc _ _) rfl ?_
  clear H
  intro g1 w1 H
  iterate 3 refine cond_no rfl ?_
  refine cond_no (decide_eq_false (by omega)) ?_
  refine H.loadAll 0 rfl agg46 size46 ?_
  refine call_fn (c162 _ _ (by first | assumption | omega | decide | (repeat' (first | assumption | refine and_lt8 ?_ _ | refine xor_lt8 ?_ ?_ | refine or_lt8 ?_ ?_))) (by first | assumption | omega | decide | (repeat' (first | assumption | refine and_lt8 ?_ _ | refine xor_lt8 ?_ ?_ | refine or_lt8 ?_ ?_))) _) ?_
  rintro _ w7 ⟨A7, k7, rfl, hk⟩
  replace H := H.addNew hk
  clear hk
  refine loop_rule (γ := Nat) _ rfl (fun i => [(6, .int .i64 (i : Int))])
    (fun i w' => (n ≤ i ∧ i ≤ 8 ∧ ∀ j, n ≤ j → j < i → m.testBit j = false) ∧ Hp w (fun _ => False) w' [own 3 1 (.slice A7 8 k7) 8 (ints (lits m v)), blk g1 46 (cc m v)] []) (fun i => 8 - i) n ⟨rfl, trivial⟩ ⟨⟨by omega, by omega, by intro j hj; omega⟩, H⟩ ?_
  clear H
  rintro i u w8 ⟨⟨hni, hi, hall⟩, H⟩
  refine cond_dec (fun h2 => ?_) (fun h2 => ?_)
  · (obtain ⟨g3, rfl⟩ := H.ownA 0 rfl (by omega))
    refine idxAddr_sl Try.underlying32 (s := 1) (by kernel_rfl) _ rfl (by first | omega | decide | (simp only [IntKind.wrap_i64]; omega) | (simp; done) | (simp; omega)) (o' := _) (by rw [Nat.zero_add, Nat.mul_one]) ?_
    refine H.loadOwn 0 rfl agg3 (lits_int (by omega)) ?_
    refine cond_bne (fun h6 => ?_) (fun h6 => ?_)
    · refine ⟨congrArg Value.bool ?_, H.keeps⟩
      have hb : m.testBit i = true := by
        cases hb : m.testBit i
        · exact absurd (by rw [litN_two.2 hb]; rfl) h6
        · rfl
      symm
      rw [Bool.eq_false_iff]
      intro hr
      have := ((rightN_iff hm hv).1 hr).2.2.1
      rw [Int.toNat_natCast] at this
      rw [bits_of_lt_pow this hni] at hb
      cases hb
    · refine ⟨i + 1, by omega, ⟨up (by omega), trivial⟩, ⟨by omega, by omega, fun j hj hj' => ?_⟩, H⟩
      by_cases hji : j = i
      · subst hji; exact litN_two.1 (by exact_mod_cast h6)
      · exact hall j hj (by omega)
  · refine H.draw fol (by kernel_rfl) ?_
    clear H
    intro w12 H
    refine call_fn (c163 (lits m v) (by rw [litsTo_length]; omega) (fun x hx => by obtain ⟨i, _, rfl⟩ := List.mem_map.1 hx; exact litN_le m v i) _ _ _ (own_Sl (H.get 0 rfl))) ?_
    rintro _ w13 ⟨rfl, hk⟩
    rw [cubeM_lits hm, cubeV_lits hm hv]
    replace H := H.same hk
    clear hk
    refine ⟨.inl H, ?_⟩
    refine quiet _ (fun w H => H.loadAll 1 rfl agg46 size46 ⟨rfl, rfl⟩) ?_
    refine quiet _ (fun w H => bin_eql46 ⟨rfl, rfl⟩) ?_
    refine ⟨congrArg Value.bool ?_, H.keeps⟩
    rw [beq_self_eq_true, Bool.true_and]
    have hlt : m < 2 ^ n := lt_pow_of_bits hm fun j hj hj' => hall j hj (by omega)
    rw [Bool.eq_iff_iff, rightN_iff hm hv, beq_iff_eq, Int.toNat_natCast]
    exact ⟨fun h => ⟨by omega, by omega, hlt, h⟩, fun h => h.2.2.2⟩
theorem ent164 : enters Try.prog 164 = true := by kernel_rfl
theorem c164 (m v : Nat) (hm : m < 256) (hv : v < 256) (p : Nat) (hp : p < 9223372036854775808) (w : World) : Fun Try.prog 164 [cv m v, .int .i64 (p : Int)] w fun r w' => r = .bool (hasC m v p) ∧ Same w w' := by
  refine fun_of_W (N := 28) Try.func164 ent164 rfl rfl rfl (by simp) ?_
  have H := Hp.start0 w
  refine H.box 46 (cv _ _) (cs := cc _ _) rfl ?_
  clear H
  intro g1 w1 H
  refine H.loadAll 0 rfl agg46 size46 ?_
  refine call_fn (c162 _ _ (by first | assumption | omega | decide | (repeat' (first | assumption | refine and_lt8 ?_ _ | refine xor_lt8 ?_ ?_ | refine or_lt8 ?_ ?_))) (by first | assumption | omega | decide | (repeat' (first | assumption | refine and_lt8 ?_ _ | refine xor_lt8 ?_ ?_ | refine or_lt8 ?_ ?_))) _) ?_
  rintro _ w3 ⟨A3, k3, rfl, hk⟩
  replace H := H.addNew hk
  clear hk
  refine loop_rule (γ := Nat) _ rfl (fun i => [(6, .int .i64 (i : Int))])
    (fun i w' => (i ≤ 8 ∧ ∀ j, j < i → (!m.testBit j || (v.testBit j == p.testBit j)) = true) ∧ Hp w (fun _ => False) w' [own 3 1 (.slice A3 8 k3) 8 (ints (lits m v)), blk g1 46 (cc m v)] []) (fun i => 8 - i) 0 ⟨rfl, trivial⟩ ⟨⟨by omega, by intro j hj; omega⟩, H⟩ ?_
  clear H
  rintro i u w8 ⟨⟨hi, hall⟩, H⟩
  refine cond_dec (fun h2 => ?_) (fun h2 => ?_)
  · refine H.draw fol (by kernel_rfl) ?_
    clear H
    intro w4 H
    (obtain ⟨g5, rfl⟩ := H.ownA 0 rfl (by omega))
    refine quiet _ (fun w H => idxAddr_sl Try.underlying32 (s := 1) (by kernel_rfl) _ rfl (by first | omega | decide | (simp only [IntKind.wrap_i64]; omega) | (rw [bls, List.length_map]; omega) | (rw [bytesV_length]; omega) | (rw [ints_length]; omega) | (simp; done) | (simp; omega)) (o' := _) (by rw [Nat.zero_add, Nat.mul_one]) ⟨rfl, rfl⟩) ?_
    refine quiet _ (fun w H => H.loadOwn 0 rfl agg3 (lits_int (by omega)) ⟨rfl, rfl⟩) ?_
    refine cond_bne (fun h9 => ?_) (fun h9 => ?_)
    · refine cond_yes (bne_iff_ne.2 (by omega)) ?_
      refine cond_yes (bne_iff_ne.2 (by omega)) ?_
      refine quiet _ (fun w H => idxAddr_sl Try.underlying32 (s := 1) (by kernel_rfl) _ rfl (by first | omega | decide | (simp only [IntKind.wrap_i64]; omega) | (rw [bls, List.length_map]; omega) | (rw [bytesV_length]; omega) | (rw [ints_length]; omega) | (simp; done) | (simp; omega)) (o' := _) (by rw [Nat.zero_add, Nat.mul_one]) ⟨rfl, rfl⟩) ?_
      refine cond_yes (bne_iff_ne.2 (by omega)) ?_
      refine quiet _ (fun w H => H.loadOwn 0 rfl agg3 (lits_int (by omega)) ⟨rfl, rfl⟩) ?_
      iterate 3 refine cond_yes (bne_iff_ne.2 (by omega)) ?_
      refine call_fn (c48 _ _ (by first | assumption | omega | decide | (repeat' (first | assumption | refine and_lt8 ?_ _ | refine xor_lt8 ?_ ?_ | refine or_lt8 ?_ ?_))) (by first | assumption | omega | decide | (repeat' (first | assumption | refine and_lt8 ?_ _ | refine xor_lt8 ?_ ?_ | refine or_lt8 ?_ ?_))) _) ?_
      rintro _ w18 ⟨rfl, hk⟩
      replace H := H.same hk
      clear hk
      refine ⟨.inl H, ?_⟩
      iterate 2 refine cond_yes (bne_iff_ne.2 (by omega)) ?_
      refine cond_bne (fun h22 => ?_) (fun h22 => ?_)
      · refine ⟨congrArg Value.bool ?_, H.keeps⟩
        have hmb := lit_set h9
        have hvb := mt (lit_vs (v := v) (p := p) hmb).2 h22
        symm
        rw [Bool.eq_false_iff]
        intro hc
        rw [hasC, List.all_eq_true] at hc
        have := hc i (List.mem_range.2 (by omega))
        rw [hmb] at this
        exact hvb (by simpa using this)
      · have hmb := lit_set h9
        refine ⟨i + 1, by omega, ⟨up (by omega), trivial⟩, ⟨by omega, fun j hj => ?_⟩, H⟩
        by_cases hji : j = i
        · subst hji; rw [(lit_vs hmb).1 h22]; simp
        · exact hall j (by omega)
    · refine cond_no (bne_eq_false_iff_eq.2 (by omega)) ?_
      iterate 7 refine cond_no (bne_eq_false_iff_eq.2 (by omega)) ?_
      refine cond_no rfl ?_
      have hmb := litN_two.1 (show litN m v i = 2 by exact_mod_cast h9)
      refine ⟨i + 1, by omega, ⟨up (by omega), trivial⟩, ⟨by omega, fun j hj => ?_⟩, H⟩
      by_cases hji : j = i
      · subst hji; rw [hmb]; rfl
      · exact hall j (by omega)
  · refine ⟨congrArg Value.bool ?_, H.keeps⟩
    symm
    rw [hasC, List.all_eq_true]
    intro j hj
    exact hall j (by have := List.mem_range.1 hj; omega)
def refP (m v n : Nat) : Nat := setOf fun p => decide (p < 2 ^ n) && hasC m v p
theorem ent60 : enters Try.prog 60 = true := by kernel_rfl
theorem c60 (m v : Nat) (hm : m < 256) (hv : v < 256) (n : Nat) (hn : n ≤ 8) (w : World) : Fun Try.prog 60 [cv m v, .int .i64 (n : Int)] w fun r w' => r = sv (refP m v n) ∧ Same w w' := by
  refine fun_of_W (N := 27) Try.func60 ent60 rfl rfl rfl (by simp) ?_
  have H := Hp.start0 w
  refine H.box 46 (cv _ _) (cs := cc _ _) rfl ?_
  clear H
  intro g1 w1 H
  refine H.alloc 24 (cs := sc 0) zero24 sc_zero ?_
  clear H
  intro g2 w2 H
  refine call_fn (c39 _ (by first | assumption | omega | decide | (repeat' (first | assumption | refine and_lt8 ?_ _ | refine xor_lt8 ?_ ?_ | refine or_lt8 ?_ ?_))) _) ?_
  rintro _ w3 ⟨A3, k3, rfl, hk⟩
  replace H := H.addNew hk
  clear hk
  have hN : 2 ^ n ≤ 256 := Nat.le_trans (Nat.pow_le_pow_right (by decide) hn) (show 2 ^ 8 ≤ 256 by decide)
  refine loop_rule (γ := Nat) _ rfl (fun i => [(6, .int .i64 (i : Int))])
    (fun i w' => i ≤ 256 ∧ Hp w (fun _ => False) w' [own 4 1 (.slice A3 256 k3) 256 (bls (ptsF m v n i)), blk g2 24 (sc 0), blk g1 46 (cc m v)] []) (fun i => 256 - i) 0 ⟨rfl, trivial⟩ ⟨by omega, by rw [ptsF_zero]; exact H⟩ ?_
  clear H
  rintro i u w8 ⟨hi, H⟩
  have hL := ptsF_length m v n i
  refine cond_dec (fun h4 => ?_) (fun h4 => ?_)
  · (obtain ⟨g5, rfl⟩ := H.ownA 0 rfl (by omega))
    refine idxAddr_sl Try.underlying29 (s := 1) (by kernel_rfl) _ rfl (by first | omega | decide | (simp only [IntKind.wrap_i64]; omega) | (simp; done) | (simp; omega)) (o' := _) (by rw [Nat.zero_add, Nat.mul_one]) ?_
    refine H.loadOwn 0 rfl agg4 (ptsF_get (by omega)) ?_
    refine cond_dec (fun h9 => ?_) (fun h9 => ?_)
    · refine H.loadAll 2 rfl agg46 size46 ?_
      iterate 2 refine cond_yes (decide_eq_true (by assumption)) ?_
      refine call_fn (c164 _ _ (by first | assumption | omega | decide | (repeat' (first | assumption | refine and_lt8 ?_ _ | refine xor_lt8 ?_ ?_ | refine or_lt8 ?_ ?_))) (by first | assumption | omega | decide | (repeat' (first | assumption | refine and_lt8 ?_ _ | refine xor_lt8 ?_ ?_ | refine or_lt8 ?_ ?_))) _ (by first | assumption | omega | decide | (repeat' (first | assumption | refine and_lt8 ?_ _ | refine xor_lt8 ?_ ?_ | refine or_lt8 ?_ ?_))) _) ?_
      rintro _ w13 ⟨rfl, hk⟩
      replace H := H.same hk
      clear hk
      refine cond_yes (decide_eq_true (by assumption)) ?_
      refine idxAddr_sl Try.underlying29 (s := 1) (by kernel_rfl) _ rfl (by first | omega | decide | (simp only [IntKind.wrap_i64]; omega) | (simp; done) | (simp; omega)) (o' := _) (by rw [Nat.zero_add, Nat.mul_one]) ?_
      refine H.storeOwn 0 rfl size4 (by first | omega | decide | (simp only [IntKind.wrap_i64]; omega) | (rw [bls, List.length_map]; omega) | (rw [bytesV_length]; omega) | (rw [ints_length]; omega) | (simp; done) | (simp; omega)) rfl ?_
      clear H
      intro w6 H
      refine ⟨i + 1, by omega, ⟨up (by omega), trivial⟩, by omega, ?_⟩
      rw [← ptsF_set (by omega), decide_eq_true h9, Bool.true_and, bls_set]
      exact H
    · refine cond_no (decide_eq_false (by assumption)) ?_
      iterate 2 refine cond_no (decide_eq_false (by assumption)) ?_
      refine idxAddr_sl Try.underlying29 (s := 1) (by kernel_rfl) _ rfl (by first | omega | decide | (simp only [IntKind.wrap_i64]; omega) | (simp; done) | (simp; omega)) (o' := _) (by rw [Nat.zero_add, Nat.mul_one]) ?_
      refine H.storeOwn 0 rfl size4 (by first | omega | decide | (simp only [IntKind.wrap_i64]; omega) | (rw [bls, List.length_map]; omega) | (rw [bytesV_length]; omega) | (rw [ints_length]; omega) | (simp; done) | (simp; omega)) rfl ?_
      clear H
      intro w6 H
      refine ⟨i + 1, by omega, ⟨up (by omega), trivial⟩, by omega, ?_⟩
      rw [← ptsF_set (by omega), decide_eq_false h9, Bool.false_and, bls_set]
      exact H
  · refine call_fn (c38 (ptsF m v n i) hL _ _ _ (own_Sl (H.get 0 rfl))) ?_
    rintro _ w15 ⟨rfl, hk⟩
    replace H := H.same hk
    clear hk
    obtain rfl : i = 256 := by omega
    rw [ptsF_all]
    refine H.storeSet 1 rfl ?_
    clear H
    intro w5 H
    refine H.loadAll 1 rfl agg24 size24 ?_
    refine ⟨rfl, ?_⟩
    exact ⟨rfl, H.keeps⟩
theorem ent61 : enters Try.prog 61 = true := by kernel_rfl
theorem c61 (m v : Nat) (hm : m < 256) (hv : v < 256) (n : Nat) (hn : n ≤ 8) (w : World) : Fun Try.prog 61 [cv m v, .int .i64 (n : Int)] w fun r w' => r = strV (textL m v n) ∧ Same w w' := by
  refine fun_of_W (N := 25) Try.func61 ent61 rfl rfl rfl (by simp) ?_
  have H := Hp.start0 w
  refine H.box 46 (cv _ _) (cs := cc _ _) rfl ?_
  clear H
  intro g1 w1 H
  refine H.loadAll 0 rfl agg46 size46 ?_
  refine call_fn (c162 _ _ (by first | assumption | omega | decide | (repeat' (first | assumption | refine and_lt8 ?_ _ | refine xor_lt8 ?_ ?_ | refine or_lt8 ?_ ?_))) (by first | assumption | omega | decide | (repeat' (first | assumption | refine and_lt8 ?_ _ | refine xor_lt8 ?_ ?_ | refine or_lt8 ?_ ?_))) _) ?_
  rintro _ w3 ⟨A3, k3, rfl, hk⟩
  replace H := H.addNew hk
  clear hk
  refine loop_rule (γ := Nat) _ rfl (fun i => [(7, .int .i64 (i : Int)), (5, strV (textL m v i))])
    (fun i w' => i ≤ n ∧ Hp w (fun _ => False) w' [own 3 1 (.slice A3 8 k3) 8 (ints (lits m v)), blk g1 46 (cc m v)] []) (fun i => n - i) 0 ⟨rfl, rfl, trivial⟩ ⟨by omega, H⟩ ?_
  clear H
  rintro i u w8 ⟨hi, H⟩
  have hL := litsTo_length m v 8
  refine cond_dec (fun h2 => ?_) (fun h2 => ?_)
  · refine H.buildSl T195 (cs := #[.string ⟨#[48]⟩, .string ⟨#[49]⟩, .string ⟨#[45]⟩]) (by decide) (by decide) (by kernel_rfl) ?_
    clear H
    intro g9 w9 H
    have hle := litN_le m v i
    (obtain ⟨g4, rfl⟩ := H.ownA 1 rfl (by omega))
    refine idxAddr_sl Try.underlying32 (s := 1) (by kernel_rfl) _ rfl (by first | omega | decide | (simp only [IntKind.wrap_i64]; omega) | (rw [bls, List.length_map]; omega) | (rw [bytesV_length]; omega) | (rw [ints_length]; omega) | (simp; done) | (simp; omega)) (o' := _) (by rw [Nat.zero_add, Nat.mul_one]) ?_
    refine H.loadOwn 1 rfl agg3 (lits_int (by omega)) ?_
    refine idxAddr_sl Try.underlying195 (s := 1) (by kernel_rfl) _ rfl (by first | omega | decide | (simp only [IntKind.wrap_i64]; omega) | (rw [bls, List.length_map]; omega) | (rw [bytesV_length]; omega) | (rw [ints_length]; omega) | (simp; done) | (simp; omega)) (o' := _) (by rw [Nat.zero_add, Nat.mul_one]) ?_
    refine H.load 0 rfl agg9 (lit_ch m v i) ?_
    refine bin_add_str (by simp only [textL_length, List.length_cons, List.length_nil]; omega) ?_
    refine ⟨i + 1, by omega, ⟨up (by omega), by rw [textL_succ]; rfl, trivial⟩, by omega, H.forget⟩
  · obtain rfl : i = n := by omega
    exact ⟨rfl, H.keeps⟩
theorem c57 (m v : Nat) (hm : m < 256) (hv : v < 256) (n : Int) (w : World) : Fun Try.prog 57 [cv m v, .int .i64 n] w fun r w' => r = .bool (rightN m v n) ∧ Same w w' := by
  by_cases h : n < 0 ∨ 8 < n
  · have e : rightN m v n = false := by unfold rightN; rcases h with h | h <;> simp <;> omega
    rw [e]; exact c57_b m v n h w
  · obtain ⟨k, rfl⟩ := Int.eq_ofNat_of_zero_le (show 0 ≤ n by omega)
    exact c57_a m v hm hv k (by omega) w
end Go.Proofs.Ytjebpngdinbckaa
end

section
/- Cubes: texts that are read. -/
namespace Go.Proofs.Ytjebpngdinbckaa
open Go.Dk
attribute [local irreducible] IntKind.wrap

theorem size_str (l : List UInt8) : (⟨l.toArray⟩ : ByteArray).size = l.length := by simp [ByteArray.size]
def codeB (b : UInt8) : Nat := if b == 48 then 0 else if b == 49 then 1 else 2
theorem decode_at {l : List UInt8} {i : Nat} (hi : i < l.length) (ha : l[i].toNat < 128) : Utf8.decode ⟨l.toArray⟩ i = (l[i].toNat, 1) := by
  have := decode_ascii ⟨l.toArray⟩ i (by rw [size_str]; exact hi) ha
  exact this
theorem decode_ge {l : List UInt8} {i : Nat} (hi : i < l.length) (ha : ¬ l[i].toNat < 128) : 128 ≤ (Utf8.decode ⟨l.toArray⟩ i).1 :=
  (decode_high ⟨l.toArray⟩ i (by rw [size_str]; exact hi) (show 128 ≤ l[i].toNat from Nat.le_of_not_lt ha)).1
theorem mkSet_or {f : Nat → Bool} {i : Nat} (hf : f i = true) : mkSet f (i + 1) = mkSet f i ||| 2 ^ i := by
  apply Nat.eq_of_testBit_eq; intro j
  rw [Nat.testBit_or, testBit_mkSet, testBit_mkSet, Nat.testBit_two_pow]
  by_cases h : i = j
  · subst h; simp [hf]
  · have : j < i + 1 ↔ j < i := by omega
    simp [h, this]
theorem mkSet_not {f : Nat → Bool} {i : Nat} (hf : f i = false) : mkSet f (i + 1) = mkSet f i := by
  rw [mkSet, hf]; rfl
theorem ok_step {l : List UInt8} {i : Nat} (hall : ∀ j (h : j < l.length), j < i → okCh l[j] = true) {hi : i < l.length} (hb : okCh l[i] = true) : ∀ j (h : j < l.length), j < i + 1 → okCh l[j] = true := by
  intro j hj hj'
  by_cases hji : j = i
  · subst hji; exact hb
  · exact hall j hj (by omega)
theorem take_code {l : List UInt8} {i : Nat} (hi : i < l.length) : (l.take (i + 1)).map codeB = (l.take i).map codeB ++ [codeB l[i]] := by
  rw [List.take_succ_eq_append_getElem hi, List.map_append]; rfl
theorem parseOk_of {l : List UInt8} (h8 : l.length ≤ 8) (h : ∀ j (hj : j < l.length), okCh l[j] = true) : parseOk l = true := by
  unfold parseOk
  simp only [Bool.and_eq_true, decide_eq_true_eq, List.all_eq_true]
  refine ⟨h8, fun x hx => ?_⟩
  obtain ⟨j, hj, rfl⟩ := List.mem_iff_getElem.1 hx
  exact h j hj
theorem parseOk_bad {l : List UInt8} {i : Nat} (hi : i < l.length) (h : okCh l[i] = false) : parseOk l = false := by
  rw [Bool.eq_false_iff]
  intro hp
  unfold parseOk at hp
  simp only [Bool.and_eq_true, decide_eq_true_eq, List.all_eq_true] at hp
  rw [hp.2 _ (List.getElem_mem hi)] at h
  cases h
theorem okCh_bad {b : UInt8} (h0 : ¬ (b.toNat : Int) = 48) (h1 : ¬ (b.toNat : Int) = 49) (h2 : ¬ (b.toNat : Int) = 45) : okCh b = false := by
  rw [Bool.eq_false_iff]
  intro h
  unfold okCh at h
  simp only [Bool.or_eq_true, beq_iff_eq] at h
  rcases h with (rfl | rfl) | rfl
  · exact h2 rfl
  · exact h0 rfl
  · exact h1 rfl
theorem codes_le {l : List UInt8} : ∀ x ∈ l.map codeB, x ≤ 2 := by
  intro x hx
  obtain ⟨b, _, rfl⟩ := List.mem_map.1 hx
  unfold codeB; split
  · omega
  · split <;> omega
theorem okCh_cases {b : UInt8} (h : okCh b = true) : b = 45 ∨ b = 48 ∨ b = 49 := by
  unfold okCh at h
  simp only [Bool.or_eq_true, beq_iff_eq] at h
  rcases h with (h | h) | h
  · exact .inl h
  · exact .inr (.inl h)
  · exact .inr (.inr h)
theorem cubeM_code {l : List UInt8} (h : parseOk l = true) : cubeM (l.map codeB) = parseM l l.length := by
  unfold parseOk at h
  simp only [Bool.and_eq_true, decide_eq_true_eq, List.all_eq_true] at h
  unfold cubeM parseM
  rw [List.length_map]
  refine mkSet_congr fun i hi => ?_
  have hb := okCh_cases (h.2 _ (List.getElem_mem hi))
  have e1 : (l.map codeB).getD i 2 = codeB l[i] := by simp [List.getD_eq_getElem?_getD, hi]
  have e2 : l.getD i 45 = l[i] := by simp [List.getD_eq_getElem?_getD, hi]
  rw [e1, e2]
  rcases hb with hb | hb | hb <;> rw [hb] <;> rfl
theorem cubeV_code {l : List UInt8} (h : parseOk l = true) : cubeV (l.map codeB) = parseV l l.length := by
  unfold parseOk at h
  simp only [Bool.and_eq_true, decide_eq_true_eq, List.all_eq_true] at h
  unfold cubeV parseV
  rw [List.length_map]
  refine mkSet_congr fun i hi => ?_
  have hb := okCh_cases (h.2 _ (List.getElem_mem hi))
  have e1 : (l.map codeB).getD i 2 = codeB l[i] := by simp [List.getD_eq_getElem?_getD, hi]
  have e2 : l.getD i 45 = l[i] := by simp [List.getD_eq_getElem?_getD, hi]
  rw [e1, e2]
  rcases hb with hb | hb | hb <;> rw [hb] <;> rfl
theorem ent63 : enters Try.prog 63 = true := by kernel_rfl
def parseC (l : List UInt8) : Value := if parseOk l then cv (parseM l l.length) (parseV l l.length) else cv 0 0
theorem c63 (l : List UInt8) (hl : l.length < 9223372036854775808) (w : World) : Fun Try.prog 63 [strV l] w fun r w' => r = .tuple #[parseC l, .bool (parseOk l)] ∧ Same w w' := by
  refine fun_of_W (N := 44) Try.func63 ent63 rfl rfl rfl (by simp) ?_
  have H := Hp.start0 w
  have hsz := size_str l
  refine H.alloc 46 (cs := cc 0 0) zero46 rfl ?_
  clear H
  intro g1 w1 H
  refine len_str Try.underlying9 ?_
  refine cond_dec (fun h3 => ?_) (fun h3 => ?_)
  · refine build46z ?_
    refine H.storeCube 0 rfl ?_
    clear H
    intro w5 H
    refine H.loadAll 0 rfl agg46 size46 ?_
    refine ⟨rfl, ?_⟩
    have e : parseOk l = false := by unfold parseOk; rw [decide_eq_false (by omega)]; rfl
    refine ⟨?_, H.keeps⟩
    simp only [parseC, e, Bool.false_eq_true, if_false]
    rfl
  · have H := H.ownNil 3 1
    refine loop_rule (γ := Nat × Option Addr × Nat) _ rfl (fun (i, A, c) => [(5, .int .i64 (i : Int)), (4, .slice A i c)])
      (fun (i, A, c) w' => (i ≤ l.length ∧ ∀ j (h : j < l.length), j < i → okCh l[j] = true) ∧ Hp w (fun _ => False) w' [own 3 1 (.slice A i c) i (ints ((l.take i).map codeB)), blk g1 46 (cc 0 0)] []) (fun (i, _, _) => l.length - i) (0, none, 0) ⟨rfl, rfl, trivial⟩ ⟨⟨by omega, by intro j _ hj; omega⟩, H⟩ ?_
    clear H
    rintro ⟨i, A, c⟩ u w8 ⟨⟨hi, hall⟩, H⟩
    refine len_str Try.underlying9 ?_
    refine cond_dec (fun h4 => ?_) (fun h4 => ?_)
    · refine idx_strL (by omega) Try.underlying9 ?_
      refine cond_dec (fun h6 => ?_) (fun h6 => ?_)
      · refine cond_yes (decide_eq_true (by assumption)) ?_
        iterate 3 refine cond_yes (decide_eq_true (by assumption)) ?_
        refine cond_yes rfl ?_
        refine idx_strL (by omega) Try.underlying9 ?_
        refine conv_i64 (by kernel_rfl) Try.underlying3 (by omega) (by omega) ?_
        refine H.buildOne T32 rfl ?_
        clear H
        intro g15 w15 H
        refine H.appendOne 0 T32 rfl rfl (by omega) (by omega) ?_
        clear H
        intro A16 k16 w16 H
        have hb : l[i] = 48 := UInt8.toNat_inj.1 (show l[i].toNat = 48 by omega)
        refine ⟨(i + 1, _, _), by show l.length - (i + 1) < l.length - i; omega, ⟨up (by omega), rfl, trivial⟩, ⟨by show i + 1 ≤ l.length; omega, ok_step hall (by rw [hb]; rfl)⟩, ?_⟩
        have e : IntKind.i64.wrap ((l[i].toNat : Int) - 48) = ((codeB l[i] : Nat) : Int) := by rw [wrap_i64_in (by omega) (by omega), hb]; rfl
        rw [e, ints_snoc, ← take_code (by omega)] at H
        exact H
      · refine cond_no (decide_eq_false (by assumption)) ?_
        refine cond_no (decide_eq_false (by assumption)) ?_
        refine idx_strL (by omega) Try.underlying9 ?_
        iterate 2 refine cond_no (decide_eq_false (by assumption)) ?_
        refine cond_dec (fun h23 => ?_) (fun h23 => ?_)
        · refine idx_strL (by omega) Try.underlying9 ?_
          refine conv_i64 (by kernel_rfl) Try.underlying3 (by omega) (by omega) ?_
          refine H.buildOne T32 rfl ?_
          clear H
          intro g26 w26 H
          refine H.appendOne 0 T32 rfl rfl (by omega) (by omega) ?_
          clear H
          intro A27 k27 w27 H
          have hb : l[i] = 49 := UInt8.toNat_inj.1 (show l[i].toNat = 49 by omega)
          refine ⟨(i + 1, _, _), by show l.length - (i + 1) < l.length - i; omega, ⟨up (by omega), rfl, trivial⟩, ⟨by show i + 1 ≤ l.length; omega, ok_step hall (by rw [hb]; rfl)⟩, ?_⟩
          have e : IntKind.i64.wrap ((l[i].toNat : Int) - 48) = ((codeB l[i] : Nat) : Int) := by rw [wrap_i64_in (by omega) (by omega), hb]; rfl
          rw [e, ints_snoc, ← take_code (by omega)] at H
          exact H
        · refine idx_strL (by omega) Try.underlying9 ?_
          refine cond_dec (fun h30 => ?_) (fun h30 => ?_)
          · refine H.buildOne T32 rfl ?_
            clear H
            intro g31 w31 H
            refine H.appendOne 0 T32 rfl rfl (by omega) (by omega) ?_
            clear H
            intro A32 k32 w32 H
            have hb : l[i] = 45 := UInt8.toNat_inj.1 (show l[i].toNat = 45 by omega)
            refine ⟨(i + 1, _, _), by show l.length - (i + 1) < l.length - i; omega, ⟨up (by omega), rfl, trivial⟩, ⟨by show i + 1 ≤ l.length; omega, ok_step hall (by rw [hb]; rfl)⟩, ?_⟩
            have e : (2 : Int) = ((codeB l[i] : Nat) : Int) := by rw [hb]; rfl
            rw [e, ints_snoc, ← take_code (by omega)] at H
            exact H
          · refine build46z ?_
            refine H.storeCube 1 rfl ?_
            clear H
            intro w35 H
            refine H.loadAll 1 rfl agg46 size46 ?_
            refine ⟨rfl, ?_⟩
            have e : parseOk l = false := parseOk_bad (i := i) (by omega) (okCh_bad h6 h23 h30)
            refine ⟨?_, H.keeps⟩
            simp only [parseC, e, Bool.false_eq_true, if_false]
            rfl
    · obtain rfl : i = l.length := by omega
      rw [List.take_length] at H
      have hok : parseOk l = true := parseOk_of (by omega) fun j hj => hall j hj hj
      have hlm : (l.map codeB).length = l.length := List.length_map ..
      have hc := c163 (l.map codeB) (by omega) codes_le A c w8 (by rw [hlm]; exact own_Sl (H.get 0 rfl))
      rw [hlm] at hc
      refine call_fn hc ?_
      rintro _ w9 ⟨rfl, hk⟩
      replace H := H.same hk
      clear hk
      rw [cubeM_code hok, cubeV_code hok]
      refine H.storeCube 1 rfl ?_
      clear H
      intro w2 H
      refine H.loadAll 1 rfl agg46 size46 ?_
      refine ⟨rfl, ?_⟩
      refine ⟨?_, H.keeps⟩
      simp only [parseC, hok, if_true]
      rfl
theorem ent62 : enters Try.prog 62 = true := by kernel_rfl
theorem c62 (l : List UInt8) (hl : l.length < 9223372036854775808) (w : World) : Fun Try.prog 62 [strV l] w fun r w' => r = .tuple #[parseC l, .int .i64 (if parseOk l then 0 else 2)] ∧ Same w w' := by
  refine fun_of_W (N := 44) Try.func62 ent62 rfl rfl rfl (by simp) ?_
  have H := Hp.start0 w
  have hsz := size_str l
  refine H.alloc 46 (cs := cc 0 0) zero46 rfl ?_
  clear H
  intro g1 w1 H
  refine len_str Try.underlying9 ?_
  refine cond_dec (fun h3 => ?_) (fun h3 => ?_)
  · refine build46z ?_
    refine H.storeCube 0 rfl ?_
    clear H
    intro w5 H
    refine H.loadAll 0 rfl agg46 size46 ?_
    refine ⟨rfl, ?_⟩
    have e : parseOk l = false := by unfold parseOk; rw [decide_eq_false (by omega)]; rfl
    refine ⟨?_, H.keeps⟩
    simp only [parseC, e, Bool.false_eq_true, if_false]
    rfl
  · refine H.alloc 46 (cs := cc 0 0) zero46 rfl ?_
    clear H
    intro g9 w9 H
    refine H.rangeStr Try.underlying9 ?_
    clear H
    intro g10 w10 H
    refine loop_rule (γ := Nat) _ rfl (fun i => [])
      (fun i w' => (i ≤ l.length ∧ ∀ j (h : j < l.length), j < i → okCh l[j] = true) ∧ Hp w (fun _ => False) w' [iterS g10 ⟨l.toArray⟩ i, blk g9 46 (cc (parseM l i) (parseV l i)), blk g1 46 (cc 0 0)] []) (fun i => l.length - i) 0 trivial ⟨⟨by omega, by intro j _ hj; omega⟩, H⟩ ?_
    clear H
    rintro i u w11 ⟨⟨hi, hall⟩, H⟩
    refine H.nextStr 0 rfl (fun hp w12 H => ?_) (fun hp => ?_)
    · have hp' : i < l.length := by omega
      have hlt8 : parseM l i < 256 := mkSet_le8 (fun j => l.getD j 45 != 45) (show i ≤ 8 by omega)
      have hlt8v : parseV l i < 256 := mkSet_le8 (fun j => l.getD j 45 == 49) (show i ≤ 8 by omega)
      have hp2 : 2 ^ i < 256 := by have := two_pow8 (show i < 8 by omega); omega
      have hgd : l.getD i 45 = l[i] := by simp [List.getD_eq_getElem?_getD, hp']
      by_cases ha : l[i].toNat < 128
      · rw [decode_at hp' ha] at H ⊢
        refine cond_yes rfl ?_
        refine cond_dec (fun h4 => ?_) (fun h4 => ?_)
        · refine H.draw fol (by kernel_rfl) ?_
          clear H
          intro w5 H
          refine quiet _ (fun w H => fieldAddr_by (fa46_1 _) ⟨rfl, rfl⟩) ?_
          refine quiet _ (fun w H => H.load 1 rfl agg5 rfl ⟨rfl, rfl⟩) ?_
          refine quiet _ (fun w H => bin_one_shl_u8 (by omega) ⟨rfl, rfl⟩) ?_
          refine quiet _ (fun w H => bin_or_u8 (by first | assumption | omega | (repeat' (first | assumption | refine and_lt8 ?_ _ | refine xor_lt8 ?_ ?_ | refine or_lt8 ?_ ?_))) (by first | assumption | omega | (repeat' (first | assumption | refine and_lt8 ?_ _ | refine xor_lt8 ?_ ?_ | refine or_lt8 ?_ ?_))) ⟨rfl, rfl⟩) ?_
          refine quiet _ (fun w H => fieldAddr_by (fa46_1 _) ⟨rfl, rfl⟩) ?_
          refine H.store 1 rfl size5 (Nat.le_of_ble_eq_true rfl) rfl ?_
          clear H
          intro w7 H
          refine ⟨.inr rfl, ?_⟩
          refine H.draw fol (by kernel_rfl) ?_
          clear H
          intro w13 H
          refine quiet _ (fun w H => fieldAddr_by (fa46_0 _) ⟨rfl, rfl⟩) ?_
          refine quiet _ (fun w H => H.load 1 rfl agg5 rfl ⟨rfl, rfl⟩) ?_
          refine quiet _ (fun w H => bin_one_shl_u8 (by omega) ⟨rfl, rfl⟩) ?_
          refine quiet _ (fun w H => bin_or_u8 (by first | assumption | omega | (repeat' (first | assumption | refine and_lt8 ?_ _ | refine xor_lt8 ?_ ?_ | refine or_lt8 ?_ ?_))) (by first | assumption | omega | (repeat' (first | assumption | refine and_lt8 ?_ _ | refine xor_lt8 ?_ ?_ | refine or_lt8 ?_ ?_))) ⟨rfl, rfl⟩) ?_
          refine quiet _ (fun w H => fieldAddr_by (fa46_0 _) ⟨rfl, rfl⟩) ?_
          refine H.store 1 rfl size5 (Nat.le_of_ble_eq_true rfl) rfl ?_
          clear H
          intro w19 H
          refine ⟨.inr rfl, ?_⟩
          have hb : l[i] = 49 := UInt8.toNat_inj.1 (show l[i].toNat = 49 from Int.ofNat_inj.1 h4)
          refine ⟨i + 1, by omega, trivial, ⟨by omega, ok_step hall (by rw [hb]; rfl)⟩, ?_⟩
          have e1 : parseM l (i + 1) = parseM l i ||| 2 ^ i := mkSet_or (by rw [hgd, hb]; rfl)
          have e2 : parseV l (i + 1) = parseV l i ||| 2 ^ i := mkSet_or (by rw [hgd, hb]; rfl)
          rw [e1, e2]
          rw [cc_set1 rfl, cc_set0 rfl] at H
          exact H
        · refine cond_dec (fun h14 => ?_) (fun h14 => ?_)
          · refine H.draw fol (by kernel_rfl) ?_
            clear H
            intro w15 H
            refine quiet _ (fun w H => fieldAddr_by (fa46_0 _) ⟨rfl, rfl⟩) ?_
            refine quiet _ (fun w H => H.load 1 rfl agg5 rfl ⟨rfl, rfl⟩) ?_
            refine quiet _ (fun w H => bin_one_shl_u8 (by omega) ⟨rfl, rfl⟩) ?_
            refine quiet _ (fun w H => bin_or_u8 (by first | assumption | omega | (repeat' (first | assumption | refine and_lt8 ?_ _ | refine xor_lt8 ?_ ?_ | refine or_lt8 ?_ ?_))) (by first | assumption | omega | (repeat' (first | assumption | refine and_lt8 ?_ _ | refine xor_lt8 ?_ ?_ | refine or_lt8 ?_ ?_))) ⟨rfl, rfl⟩) ?_
            refine quiet _ (fun w H => fieldAddr_by (fa46_0 _) ⟨rfl, rfl⟩) ?_
            refine H.store 1 rfl size5 (Nat.le_of_ble_eq_true rfl) rfl ?_
            clear H
            intro w6 H
            refine ⟨.inr rfl, ?_⟩
            have hb : l[i] = 48 := UInt8.toNat_inj.1 (show l[i].toNat = 48 from Int.ofNat_inj.1 h14)
            refine ⟨i + 1, by omega, trivial, ⟨by omega, ok_step hall (by rw [hb]; rfl)⟩, ?_⟩
            have e1 : parseM l (i + 1) = parseM l i ||| 2 ^ i := mkSet_or (by rw [hgd, hb]; rfl)
            have e2 : parseV l (i + 1) = parseV l i := mkSet_not (by rw [hgd, hb]; rfl)
            rw [e1, e2]
            rw [cc_set0 rfl] at H
            exact H
          · refine cond_dec (fun h20 => ?_) (fun h20 => ?_)
            · have hb : l[i] = 45 := UInt8.toNat_inj.1 (show l[i].toNat = 45 from Int.ofNat_inj.1 h20)
              refine ⟨i + 1, by omega, trivial, ⟨by omega, ok_step hall (by rw [hb]; rfl)⟩, ?_⟩
              have e1 : parseM l (i + 1) = parseM l i := mkSet_not (by rw [hgd, hb]; rfl)
              have e2 : parseV l (i + 1) = parseV l i := mkSet_not (by rw [hgd, hb]; rfl)
              rw [e1, e2]
              exact H
            · refine build46z ?_
              refine H.storeCube 2 rfl ?_
              clear H
              intro w23 H
              refine H.loadAll 2 rfl agg46 size46 ?_
              refine ⟨rfl, ?_⟩
              have e : parseOk l = false := parseOk_bad (i := i) hp' (okCh_bad h14 h4 h20)
              refine ⟨?_, H.keeps⟩
              simp only [parseC, e, Bool.false_eq_true, if_false]
              rfl
      · have hge := decode_ge hp' ha
        refine cond_yes rfl ?_
        iterate 3 refine cond_no (beq_eq_false_iff_ne.2 (by omega)) ?_
        refine build46z ?_
        refine H.storeCube 2 rfl ?_
        clear H
        intro w8 H
        refine H.loadAll 2 rfl agg46 size46 ?_
        refine ⟨rfl, ?_⟩
        have e : parseOk l = false := parseOk_bad (i := i) hp' (okCh_bad (by omega) (by omega) (by omega))
        refine ⟨?_, H.keeps⟩
        simp only [parseC, e, Bool.false_eq_true, if_false]
        rfl
    · obtain rfl : i = l.length := by omega
      refine cond_no rfl ?_
      refine H.loadAll 1 rfl agg46 size46 ?_
      refine H.storeCube 2 rfl ?_
      clear H
      intro w5 H
      refine H.loadAll 2 rfl agg46 size46 ?_
      refine ⟨rfl, ?_⟩
      have hok : parseOk l = true := parseOk_of (by omega) fun j hj => hall j hj hj
      refine ⟨?_, H.keeps⟩
      simp only [parseC, hok, if_true]
      rfl
end Go.Proofs.Ytjebpngdinbckaa
end

section
/- Cubes: the examples, and the statements. -/
namespace Go.Proofs.Ytjebpngdinbckaa
open Go.Dk
attribute [local irreducible] IntKind.wrap

theorem pk1 : parseC [49, 45, 48] = cv 5 1 := by kernel_rfl
theorem pk2 : parseC [49, 48] = cv 3 1 := by kernel_rfl
theorem pk3 : parseC [49, 49] = cv 3 3 := by kernel_rfl
theorem pe1 : (if parseOk [49, 45, 48] = true then (0 : Int) else 2) = 0 := by kernel_rfl
theorem pe2 : (if parseOk [49, 48] = true then (0 : Int) else 2) = 0 := by kernel_rfl
theorem pe3 : (if parseOk [49, 49] = true then (0 : Int) else 2) = 0 := by kernel_rfl
theorem pp1 : cubeP 5 1 3 = 10 := by kernel_rfl
theorem pj1 : cv (joinM 3 1 3 3) (1 &&& joinM 3 1 3 3) = cv 1 1 := by kernel_rfl
theorem pt1 : textL 1 1 2 = [49, 45] := by kernel_rfl
theorem ps1 : popc 5 = 2 := by simp [popc_step 5, popc_step 2, popc_step 1, popc_zero]
theorem build24_10 {w : World} {kk : Value → World → Prop} (h : kk (sv 10) w) : buildK Try.prog 24 [(0, .int .u64 10)] w kk :=
  build_by (fun w => by kernel_rfl) h
theorem bin_eql24_10 {w : World} {xo yo : Operand} {kk : Value → World → Prop} (h : kk (.bool true) w) : binK Try.prog .eql 24 xo yo (sv 10) (sv 10) w kk :=
  bin_eql24 (by decide) (by decide) h
theorem ent59 : enters Try.prog 59 = true := by kernel_rfl
theorem c59 (w : World) : Fun Try.prog 59 [] w fun r w' => r = .bool true ∧ Same w w' := by
  refine fun_of_W (N := 68) Try.func59 ent59 rfl rfl rfl (by simp) ?_
  have H := Hp.start0 w
  refine call_fn (c62 [49, 45, 48] (by decide) _) ?_
  rintro _ w1 ⟨rfl, hk⟩
  replace H := H.same hk
  clear hk
  rw [pk1, pe1]
  refine H.alloc 46 (cs := cc 0 0) zero46 rfl ?_
  clear H
  intro g2 w2 H
  refine H.storeCube 0 rfl ?_
  clear H
  intro w3 H
  refine H.loadAll 0 rfl agg46 size46 ?_
  refine call_fn (c55_a 5 1 (by decide) (by decide) 3 (by decide) (by kernel_rfl) _) ?_
  rintro _ w5 ⟨rfl, hk⟩
  replace H := H.same hk
  clear hk
  rw [pp1]
  refine H.alloc 24 (cs := sc 0) zero24 sc_zero ?_
  clear H
  intro g6 w6 H
  refine H.storeSet 0 rfl ?_
  clear H
  intro w7 H
  refine call_fn (c62 [49, 48] (by decide) _) ?_
  rintro _ w8 ⟨rfl, hk⟩
  replace H := H.same hk
  clear hk
  rw [pk2, pe2]
  refine H.alloc 46 (cs := cc 0 0) zero46 rfl ?_
  clear H
  intro g9 w9 H
  refine H.storeCube 0 rfl ?_
  clear H
  intro w10 H
  refine call_fn (c62 [49, 49] (by decide) _) ?_
  rintro _ w11 ⟨rfl, hk⟩
  replace H := H.same hk
  clear hk
  rw [pk3, pe3]
  refine H.alloc 46 (cs := cc 0 0) zero46 rfl ?_
  clear H
  intro g12 w12 H
  refine H.storeCube 0 rfl ?_
  clear H
  intro w13 H
  refine H.loadAll 1 rfl agg46 size46 ?_
  refine H.loadAll 0 rfl agg46 size46 ?_
  refine call_fn (c77 3 1 3 3 (by decide) (by decide) (by decide) (by decide) _) ?_
  rintro _ w16 ⟨rfl, hk⟩
  replace H := H.same hk
  clear hk
  rw [pj1]
  refine call_fn (c56_a 1 1 (by decide) (by decide) 2 (by decide) (by kernel_rfl) _) ?_
  rintro _ w17 ⟨rfl, hk⟩
  replace H := H.same hk
  clear hk
  rw [pt1]
  refine cond_yes rfl ?_
  refine H.loadAll 3 rfl agg46 size46 ?_
  refine cond_yes rfl ?_
  refine build46 ?_
  refine cond_yes rfl ?_
  refine bin_eql46 ?_
  iterate 2 refine cond_yes rfl ?_
  refine H.loadAll 2 rfl agg24 size24 ?_
  refine cond_yes rfl ?_
  refine build24_10 ?_
  refine cond_yes rfl ?_
  refine bin_eql24_10 ?_
  iterate 6 refine cond_yes rfl ?_
  refine bin_eql_strL ?_
  iterate 5 refine cond_yes rfl ?_
  refine H.loadAll 3 rfl agg46 size46 ?_
  refine cond_yes rfl ?_
  refine call_fn (c76 5 1 (by decide) _) ?_
  rintro _ w45 ⟨rfl, hk⟩
  replace H := H.same hk
  clear hk
  rw [ps1]
  iterate 3 refine cond_yes rfl ?_
  refine H.loadAll 3 rfl agg46 size46 ?_
  refine cond_yes rfl ?_
  refine call_fn (c58_a 5 1 (by decide) (by decide) 3 (by decide) _) ?_
  rintro _ w51 ⟨rfl, hk⟩
  replace H := H.same hk
  clear hk
  rw [show rightN 5 1 (3 : Nat) = true from rfl]
  refine cond_yes rfl ?_
  exact ⟨rfl, H.keeps⟩

/-! ### CubePoints and CubeParses -/
theorem refP_eq {m v : Nat} (n : Nat) (hm : m < 256) (hv : v &&& m = v) : refP m v n = cubeP m v n := by
  unfold refP cubeP
  refine set_ext (setOf_lt _) (setOf_lt _) fun p hp => ?_
  rw [testBit_setOf, testBit_setOf, hasC_eq hm hv]
theorem build24z {w : World} {kk : Value → World → Prop} (h : kk (sv 0) w) : buildK Try.prog 24 [] w kk := build24 h
theorem ent7 : enters Try.prog 7 = true := by kernel_rfl
theorem law7 (m v : Nat) (hm : m < 256) (hv : v < 256) (n : Int) (w : World) : Fun Try.prog 7 [cv m v, .int .i64 n] w fun v w' => v = .bool true ∧ Same w w' := by
  refine fun_of_W (N := 73) Try.func7 ent7 rfl rfl rfl (by simp) ?_
  have H := Hp.start0 w
  cases hr : rightN m v n with
  | false =>
    refine H.box 46 (cv _ _) (cs := cc _ _) rfl ?_
    clear H
    intro g1 w1 H
    refine H.loadAll 0 rfl agg46 size46 ?_
    refine call_fn (c55_b _ _ (by first | assumption | omega | decide | (repeat' (first | assumption | refine and_lt8 ?_ _ | refine xor_lt8 ?_ ?_ | refine or_lt8 ?_ ?_))) (by first | assumption | omega | decide | (repeat' (first | assumption | refine and_lt8 ?_ _ | refine xor_lt8 ?_ ?_ | refine or_lt8 ?_ ?_))) _ (by first | assumption | omega | decide | (repeat' (first | assumption | refine and_lt8 ?_ _ | refine xor_lt8 ?_ ?_ | refine or_lt8 ?_ ?_))) _) ?_
    rintro _ w3 ⟨rfl, hk⟩
    replace H := H.same hk
    clear hk
    refine H.alloc 24 (cs := sc 0) zero24 sc_zero ?_
    clear H
    intro g4 w4 H
    refine H.storeSet 0 rfl ?_
    clear H
    intro w5 H
    refine H.loadAll 1 rfl agg46 size46 ?_
    refine call_fn (c56_b _ _ (by first | assumption | omega | decide | (repeat' (first | assumption | refine and_lt8 ?_ _ | refine xor_lt8 ?_ ?_ | refine or_lt8 ?_ ?_))) (by first | assumption | omega | decide | (repeat' (first | assumption | refine and_lt8 ?_ _ | refine xor_lt8 ?_ ?_ | refine or_lt8 ?_ ?_))) _ (by first | assumption | omega | decide | (repeat' (first | assumption | refine and_lt8 ?_ _ | refine xor_lt8 ?_ ?_ | refine or_lt8 ?_ ?_))) _) ?_
    rintro _ w7 ⟨rfl, hk⟩
    replace H := H.same hk
    clear hk
    refine H.loadAll 1 rfl agg46 size46 ?_
    refine call_fn (c57 _ _ (by first | assumption | omega | decide | (repeat' (first | assumption | refine and_lt8 ?_ _ | refine xor_lt8 ?_ ?_ | refine or_lt8 ?_ ?_))) (by first | assumption | omega | decide | (repeat' (first | assumption | refine and_lt8 ?_ _ | refine xor_lt8 ?_ ?_ | refine or_lt8 ?_ ?_))) _ _) ?_
    rintro _ w9 ⟨rfl, hk⟩
    replace H := H.same hk
    clear hk
    rw [hr]
    refine H.loadAll 1 rfl agg46 size46 ?_
    refine call_fn (c58 _ _ (by first | assumption | omega | decide | (repeat' (first | assumption | refine and_lt8 ?_ _ | refine xor_lt8 ?_ ?_ | refine or_lt8 ?_ ?_))) (by first | assumption | omega | decide | (repeat' (first | assumption | refine and_lt8 ?_ _ | refine xor_lt8 ?_ ?_ | refine or_lt8 ?_ ?_))) _ _) ?_
    rintro _ w12 ⟨rfl, hk⟩
    replace H := H.same hk
    clear hk
    rw [hr]
    refine bin_neq_bool Try.underlying4 ?_
    refine cond_no rfl ?_
    refine cond_yes rfl ?_
    refine H.loadAll 0 rfl agg24 size24 ?_
    refine build24z ?_
    refine bin_eql24 (by first | assumption | decide) (by first | assumption | decide) ?_
    iterate 5 refine cond_yes rfl ?_
    refine bin_eql_strL ?_
    iterate 5 refine cond_yes rfl ?_
    refine call_fn (c59 _) ?_
    rintro _ w31 ⟨rfl, hk⟩
    replace H := H.same hk
    clear hk
    refine cond_yes rfl ?_
    exact ⟨rfl, H.keeps⟩
  | true =>
    obtain ⟨h0, h8, hlt, hsub⟩ := (rightN_iff hm hv).1 hr
    obtain ⟨k, rfl⟩ := Int.eq_ofNat_of_zero_le h0
    have hcl := cubeP_lt m v k
    refine H.box 46 (cv _ _) (cs := cc _ _) rfl ?_
    clear H
    intro g1 w1 H
    refine H.loadAll 0 rfl agg46 size46 ?_
    refine call_fn (c55_a _ _ (by first | assumption | omega | decide | (repeat' (first | assumption | refine and_lt8 ?_ _ | refine xor_lt8 ?_ ?_ | refine or_lt8 ?_ ?_))) (by first | assumption | omega | decide | (repeat' (first | assumption | refine and_lt8 ?_ _ | refine xor_lt8 ?_ ?_ | refine or_lt8 ?_ ?_))) _ (by first | assumption | omega | decide | (repeat' (first | assumption | refine and_lt8 ?_ _ | refine xor_lt8 ?_ ?_ | refine or_lt8 ?_ ?_))) (by first | assumption | omega | decide | (repeat' (first | assumption | refine and_lt8 ?_ _ | refine xor_lt8 ?_ ?_ | refine or_lt8 ?_ ?_))) _) ?_
    rintro _ w3 ⟨rfl, hk⟩
    replace H := H.same hk
    clear hk
    refine H.alloc 24 (cs := sc 0) zero24 sc_zero ?_
    clear H
    intro g4 w4 H
    refine H.storeSet 0 rfl ?_
    clear H
    intro w5 H
    refine H.loadAll 1 rfl agg46 size46 ?_
    refine call_fn (c56_a _ _ (by first | assumption | omega | decide | (repeat' (first | assumption | refine and_lt8 ?_ _ | refine xor_lt8 ?_ ?_ | refine or_lt8 ?_ ?_))) (by first | assumption | omega | decide | (repeat' (first | assumption | refine and_lt8 ?_ _ | refine xor_lt8 ?_ ?_ | refine or_lt8 ?_ ?_))) _ (by first | assumption | omega | decide | (repeat' (first | assumption | refine and_lt8 ?_ _ | refine xor_lt8 ?_ ?_ | refine or_lt8 ?_ ?_))) (by first | assumption | omega | decide | (repeat' (first | assumption | refine and_lt8 ?_ _ | refine xor_lt8 ?_ ?_ | refine or_lt8 ?_ ?_))) _) ?_
    rintro _ w7 ⟨rfl, hk⟩
    replace H := H.same hk
    clear hk
    refine H.loadAll 1 rfl agg46 size46 ?_
    refine call_fn (c57_a _ _ (by first | assumption | omega | decide | (repeat' (first | assumption | refine and_lt8 ?_ _ | refine xor_lt8 ?_ ?_ | refine or_lt8 ?_ ?_))) (by first | assumption | omega | decide | (repeat' (first | assumption | refine and_lt8 ?_ _ | refine xor_lt8 ?_ ?_ | refine or_lt8 ?_ ?_))) _ (by first | assumption | omega | decide | (repeat' (first | assumption | refine and_lt8 ?_ _ | refine xor_lt8 ?_ ?_ | refine or_lt8 ?_ ?_))) _) ?_
    rintro _ w10 ⟨rfl, hk⟩
    replace H := H.same hk
    clear hk
    rw [hr]
    refine H.loadAll 1 rfl agg46 size46 ?_
    refine call_fn (c58_a _ _ (by first | assumption | omega | decide | (repeat' (first | assumption | refine and_lt8 ?_ _ | refine xor_lt8 ?_ ?_ | refine or_lt8 ?_ ?_))) (by first | assumption | omega | decide | (repeat' (first | assumption | refine and_lt8 ?_ _ | refine xor_lt8 ?_ ?_ | refine or_lt8 ?_ ?_))) _ (by first | assumption | omega | decide | (repeat' (first | assumption | refine and_lt8 ?_ _ | refine xor_lt8 ?_ ?_ | refine or_lt8 ?_ ?_))) _) ?_
    rintro _ w13 ⟨rfl, hk⟩
    replace H := H.same hk
    clear hk
    rw [hr]
    refine bin_neq_bool Try.underlying4 ?_
    iterate 2 refine cond_no rfl ?_
    refine H.draw fol (by kernel_rfl) ?_
    clear H
    intro w18 H
    refine quiet _ (fun w H => H.loadAll 0 rfl agg24 size24 ⟨rfl, rfl⟩) ?_
    refine quiet _ (fun w H => H.loadAll 1 rfl agg46 size46 ⟨rfl, rfl⟩) ?_
    refine call_fn (c60 _ _ (by first | assumption | omega | decide | (repeat' (first | assumption | refine and_lt8 ?_ _ | refine xor_lt8 ?_ ?_ | refine or_lt8 ?_ ?_))) (by first | assumption | omega | decide | (repeat' (first | assumption | refine and_lt8 ?_ _ | refine xor_lt8 ?_ ?_ | refine or_lt8 ?_ ?_))) _ (by first | assumption | omega | decide | (repeat' (first | assumption | refine and_lt8 ?_ _ | refine xor_lt8 ?_ ?_ | refine or_lt8 ?_ ?_))) _) ?_
    rintro _ w21 ⟨rfl, hk⟩
    replace H := H.same hk
    clear hk
    rw [refP_eq k hm hsub]
    refine ⟨.inl H, ?_⟩
    refine quiet _ (fun w H => bin_eql24 (by first | assumption | decide) (by first | assumption | decide) ⟨rfl, rfl⟩) ?_
    iterate 3 refine cond_yes (beq_self_eq_true _) ?_
    iterate 2 refine cond_yes rfl ?_
    refine quiet _ (fun w H => H.loadAll 1 rfl agg46 size46 ⟨rfl, rfl⟩) ?_
    iterate 2 refine cond_yes rfl ?_
    refine call_fn (c61 _ _ (by first | assumption | omega | decide | (repeat' (first | assumption | refine and_lt8 ?_ _ | refine xor_lt8 ?_ ?_ | refine or_lt8 ?_ ?_))) (by first | assumption | omega | decide | (repeat' (first | assumption | refine and_lt8 ?_ _ | refine xor_lt8 ?_ ?_ | refine or_lt8 ?_ ?_))) _ (by first | assumption | omega | decide | (repeat' (first | assumption | refine and_lt8 ?_ _ | refine xor_lt8 ?_ ?_ | refine or_lt8 ?_ ?_))) _) ?_
    rintro _ w33 ⟨rfl, hk⟩
    replace H := H.same hk
    clear hk
    refine ⟨.inl H, ?_⟩
    refine cond_yes rfl ?_
    refine quiet _ (fun w H => bin_eql_strL ⟨rfl, rfl⟩) ?_
    refine cond_yes rfl ?_
    iterate 3 refine cond_yes (beq_self_eq_true _) ?_
    refine cond_yes rfl ?_
    refine call_fn (c59 _) ?_
    rintro _ w42 ⟨rfl, hk⟩
    replace H := H.same hk
    clear hk
    refine ⟨.inl H, ?_⟩
    refine cond_yes rfl ?_
    exact ⟨rfl, H.keeps⟩
theorem parseC_ok {l : List UInt8} (h : parseOk l = true) : parseC l = cv (parseM l l.length) (parseV l l.length) := by rw [parseC, h]; rfl
theorem parseC_bad {l : List UInt8} (h : parseOk l = false) : parseC l = cv 0 0 := by rw [parseC, h]; rfl
theorem parse_e0 {l : List UInt8} (h : parseOk l = true) : (if parseOk l = true then (0 : Int) else 2) = 0 := by rw [h]; rfl
theorem parse_e2 {l : List UInt8} (h : parseOk l = false) : (if parseOk l = true then (0 : Int) else 2) = 2 := by rw [h]; rfl
theorem ent8 : enters Try.prog 8 = true := by kernel_rfl
theorem parse_textC {m v k : Nat} (hm : m < 2 ^ k) (hv : v &&& m = v) (hk : k ≤ 8) : parseC (textL m v k) = cv m v ∧ (if parseOk (textL m v k) = true then (0 : Int) else 2) = 0 := by
  obtain ⟨h1, h2, h3⟩ := parse_text hm hv hk
  rw [parseC_ok h1, parse_e0 h1, textL_length, h2, h3]
  exact ⟨rfl, rfl⟩
theorem law8 (l : List UInt8) (hl : l.length < 9223372036854775808) (m v : Nat) (hm : m < 256) (hv : v < 256) (n : Int) (w : World) : Fun Try.prog 8 [strV l, cv m v, .int .i64 n] w fun v w' => v = .bool true ∧ Same w w' := by
  refine fun_of_W (N := 87) Try.func8 ent8 rfl rfl rfl (by simp) ?_
  have H := Hp.start0 w
  have hsz := size_str l
  cases hp : parseOk l with
  | false =>
    cases hr : rightN m v n with
    | false =>
      refine H.box 46 (cv _ _) (cs := cc _ _) rfl ?_
      clear H
      intro g1 w1 H
      refine len_str Try.underlying9 ?_
      refine cond_dec (fun h3 => ?_) (fun h3 => ?_)
      · refine call_fn (c59 _) ?_
        rintro _ w4 ⟨rfl, hk⟩
        replace H := H.same hk
        clear hk
        exact ⟨rfl, H.keeps⟩
      · refine call_fn (c62 _ (by first | assumption | omega | decide | (repeat' (first | assumption | refine and_lt8 ?_ _ | refine xor_lt8 ?_ ?_ | refine or_lt8 ?_ ?_))) _) ?_
        rintro _ w6 ⟨rfl, hk⟩
        replace H := H.same hk
        clear hk
        rw [parseC_bad hp]
        rw [parse_e2 hp]
        refine H.alloc 46 (cs := cc 0 0) zero46 rfl ?_
        clear H
        intro g9 w9 H
        refine H.storeCube 0 rfl ?_
        clear H
        intro w10 H
        refine call_fn (c63 _ (by first | assumption | omega | decide | (repeat' (first | assumption | refine and_lt8 ?_ _ | refine xor_lt8 ?_ ?_ | refine or_lt8 ?_ ?_))) _) ?_
        rintro _ w11 ⟨rfl, hk⟩
        replace H := H.same hk
        clear hk
        rw [parseC_bad hp]
        rw [hp]
        refine H.alloc 46 (cs := cc 0 0) zero46 rfl ?_
        clear H
        intro g14 w14 H
        refine H.storeCube 0 rfl ?_
        clear H
        intro w15 H
        refine H.loadAll 1 rfl agg46 size46 ?_
        refine H.loadAll 0 rfl agg46 size46 ?_
        refine bin_neq46 ?_
        iterate 4 refine cond_no rfl ?_
        refine bin_neq_bool Try.underlying4 ?_
        iterate 4 refine cond_no rfl ?_
        iterate 2 refine cond_yes rfl ?_
        refine cond_no rfl ?_
        refine cond_yes rfl ?_
        iterate 3 refine cond_no rfl ?_
        refine H.loadAll 2 rfl agg46 size46 ?_
        refine call_fn (c56_b _ _ (by first | assumption | omega | decide | (repeat' (first | assumption | refine and_lt8 ?_ _ | refine xor_lt8 ?_ ?_ | refine or_lt8 ?_ ?_))) (by first | assumption | omega | decide | (repeat' (first | assumption | refine and_lt8 ?_ _ | refine xor_lt8 ?_ ?_ | refine or_lt8 ?_ ?_))) _ (by first | assumption | omega | decide | (repeat' (first | assumption | refine and_lt8 ?_ _ | refine xor_lt8 ?_ ?_ | refine or_lt8 ?_ ?_))) _) ?_
        rintro _ w36 ⟨rfl, hk⟩
        replace H := H.same hk
        clear hk
        refine cond_yes rfl ?_
        refine call_fn (c59 _) ?_
        rintro _ w38 ⟨rfl, hk⟩
        replace H := H.same hk
        clear hk
        exact ⟨rfl, H.keeps⟩
    | true =>
      obtain ⟨h0, h8', hlt, hsub⟩ := (rightN_iff hm hv).1 hr
      obtain ⟨k, rfl⟩ := Int.eq_ofNat_of_zero_le h0
      obtain ⟨ht1, ht2⟩ := parse_textC (k := k) hlt hsub (by omega)
      have hlen : (textL m v k).length < 9223372036854775808 := by rw [textL_length]; omega
      refine H.box 46 (cv _ _) (cs := cc _ _) rfl ?_
      clear H
      intro g1 w1 H
      refine len_str Try.underlying9 ?_
      refine cond_dec (fun h3 => ?_) (fun h3 => ?_)
      · refine call_fn (c59 _) ?_
        rintro _ w4 ⟨rfl, hk⟩
        replace H := H.same hk
        clear hk
        exact ⟨rfl, H.keeps⟩
      · refine call_fn (c62 _ (by first | assumption | omega | decide | (repeat' (first | assumption | refine and_lt8 ?_ _ | refine xor_lt8 ?_ ?_ | refine or_lt8 ?_ ?_))) _) ?_
        rintro _ w6 ⟨rfl, hk⟩
        replace H := H.same hk
        clear hk
        rw [parseC_bad hp]
        rw [parse_e2 hp]
        refine H.alloc 46 (cs := cc 0 0) zero46 rfl ?_
        clear H
        intro g9 w9 H
        refine H.storeCube 0 rfl ?_
        clear H
        intro w10 H
        refine call_fn (c63 _ (by first | assumption | omega | decide | (repeat' (first | assumption | refine and_lt8 ?_ _ | refine xor_lt8 ?_ ?_ | refine or_lt8 ?_ ?_))) _) ?_
        rintro _ w11 ⟨rfl, hk⟩
        replace H := H.same hk
        clear hk
        rw [parseC_bad hp]
        rw [hp]
        refine H.alloc 46 (cs := cc 0 0) zero46 rfl ?_
        clear H
        intro g14 w14 H
        refine H.storeCube 0 rfl ?_
        clear H
        intro w15 H
        refine H.loadAll 1 rfl agg46 size46 ?_
        refine H.loadAll 0 rfl agg46 size46 ?_
        refine bin_neq46 ?_
        iterate 4 refine cond_no rfl ?_
        refine bin_neq_bool Try.underlying4 ?_
        iterate 4 refine cond_no rfl ?_
        iterate 2 refine cond_yes rfl ?_
        refine cond_no rfl ?_
        refine cond_yes rfl ?_
        iterate 3 refine cond_no rfl ?_
        refine H.loadAll 2 rfl agg46 size46 ?_
        refine call_fn (c56_a _ _ (by first | assumption | omega | decide | (repeat' (first | assumption | refine and_lt8 ?_ _ | refine xor_lt8 ?_ ?_ | refine or_lt8 ?_ ?_))) (by first | assumption | omega | decide | (repeat' (first | assumption | refine and_lt8 ?_ _ | refine xor_lt8 ?_ ?_ | refine or_lt8 ?_ ?_))) _ (by first | assumption | omega | decide | (repeat' (first | assumption | refine and_lt8 ?_ _ | refine xor_lt8 ?_ ?_ | refine or_lt8 ?_ ?_))) (by first | assumption | omega | decide | (repeat' (first | assumption | refine and_lt8 ?_ _ | refine xor_lt8 ?_ ?_ | refine or_lt8 ?_ ?_))) _) ?_
        rintro _ w36 ⟨rfl, hk⟩
        replace H := H.same hk
        clear hk
        refine cond_no rfl ?_
        refine call_fn (c62 _ (by first | assumption | omega | decide | (repeat' (first | assumption | refine and_lt8 ?_ _ | refine xor_lt8 ?_ ?_ | refine or_lt8 ?_ ?_))) _) ?_
        rintro _ w38 ⟨rfl, hk⟩
        replace H := H.same hk
        clear hk
        rw [ht1]
        rw [ht2]
        refine H.alloc 46 (cs := cc 0 0) zero46 rfl ?_
        clear H
        intro g41 w41 H
        refine H.storeCube 0 rfl ?_
        clear H
        intro w42 H
        refine H.loadAll 0 rfl agg46 size46 ?_
        refine H.loadAll 3 rfl agg46 size46 ?_
        refine bin_eql46 ?_
        iterate 3 refine cond_yes (by simp) ?_
        refine cond_yes rfl ?_
        refine call_fn (c59 _) ?_
        rintro _ w50 ⟨rfl, hk⟩
        replace H := H.same hk
        clear hk
        refine cond_yes rfl ?_
        exact ⟨rfl, H.keeps⟩
  | true =>
    have h8 : l.length ≤ 8 := by unfold parseOk at hp; simp at hp; exact hp.1
    have hpr := parse_right hp
    have hpt := text_parse hp
    have hpm : parseM l l.length < 256 := mkSet_le8 _ h8
    have hpv : parseV l l.length < 256 := mkSet_le8 _ h8
    cases hr : rightN m v n with
    | false =>
      refine H.box 46 (cv _ _) (cs := cc _ _) rfl ?_
      clear H
      intro g1 w1 H
      refine len_str Try.underlying9 ?_
      rw [hsz]
      refine cond_no (decide_eq_false (by omega)) ?_
      refine call_fn (c62 _ (by first | assumption | omega | decide | (repeat' (first | assumption | refine and_lt8 ?_ _ | refine xor_lt8 ?_ ?_ | refine or_lt8 ?_ ?_))) _) ?_
      rintro _ w5 ⟨rfl, hk⟩
      replace H := H.same hk
      clear hk
      rw [parseC_ok hp]
      rw [parse_e0 hp]
      refine H.alloc 46 (cs := cc 0 0) zero46 rfl ?_
      clear H
      intro g9 w9 H
      refine H.storeCube 0 rfl ?_
      clear H
      intro w10 H
      refine call_fn (c63 _ (by first | assumption | omega | decide | (repeat' (first | assumption | refine and_lt8 ?_ _ | refine xor_lt8 ?_ ?_ | refine or_lt8 ?_ ?_))) _) ?_
      rintro _ w11 ⟨rfl, hk⟩
      replace H := H.same hk
      clear hk
      rw [parseC_ok hp]
      rw [hp]
      refine H.alloc 46 (cs := cc 0 0) zero46 rfl ?_
      clear H
      intro g14 w14 H
      refine H.storeCube 0 rfl ?_
      clear H
      intro w15 H
      refine H.loadAll 1 rfl agg46 size46 ?_
      refine H.loadAll 0 rfl agg46 size46 ?_
      refine bin_neq46 ?_
      iterate 4 refine cond_no (by simp) ?_
      refine bin_neq_bool Try.underlying4 ?_
      refine cond_no (by simp) ?_
      iterate 9 refine cond_no rfl ?_
      refine cond_yes rfl ?_
      refine H.loadAll 1 rfl agg46 size46 ?_
      refine len_str Try.underlying9 ?_
      rw [hsz]
      refine call_fn (c56_a _ _ (by first | assumption | omega | decide | (repeat' (first | assumption | refine and_lt8 ?_ _ | refine xor_lt8 ?_ ?_ | refine or_lt8 ?_ ?_))) (by first | assumption | omega | decide | (repeat' (first | assumption | refine and_lt8 ?_ _ | refine xor_lt8 ?_ ?_ | refine or_lt8 ?_ ?_))) _ (by first | assumption | omega | decide | (repeat' (first | assumption | refine and_lt8 ?_ _ | refine xor_lt8 ?_ ?_ | refine or_lt8 ?_ ?_))) (by first | assumption | omega | decide | (repeat' (first | assumption | refine and_lt8 ?_ _ | refine xor_lt8 ?_ ?_ | refine or_lt8 ?_ ?_))) _) ?_
      rintro _ w38 ⟨rfl, hk⟩
      replace H := H.same hk
      clear hk
      rw [hpt]
      refine bin_neq_strL ?_
      iterate 3 refine cond_no (by simp) ?_
      refine cond_no rfl ?_
      refine H.loadAll 2 rfl agg46 size46 ?_
      refine call_fn (c56_b _ _ (by first | assumption | omega | decide | (repeat' (first | assumption | refine and_lt8 ?_ _ | refine xor_lt8 ?_ ?_ | refine or_lt8 ?_ ?_))) (by first | assumption | omega | decide | (repeat' (first | assumption | refine and_lt8 ?_ _ | refine xor_lt8 ?_ ?_ | refine or_lt8 ?_ ?_))) _ (by first | assumption | omega | decide | (repeat' (first | assumption | refine and_lt8 ?_ _ | refine xor_lt8 ?_ ?_ | refine or_lt8 ?_ ?_))) _) ?_
      rintro _ w46 ⟨rfl, hk⟩
      replace H := H.same hk
      clear hk
      refine cond_yes rfl ?_
      refine call_fn (c59 _) ?_
      rintro _ w48 ⟨rfl, hk⟩
      replace H := H.same hk
      clear hk
      exact ⟨rfl, H.keeps⟩
    | true =>
      obtain ⟨h0, h8', hlt, hsub⟩ := (rightN_iff hm hv).1 hr
      obtain ⟨k, rfl⟩ := Int.eq_ofNat_of_zero_le h0
      obtain ⟨ht1, ht2⟩ := parse_textC (k := k) hlt hsub (by omega)
      have hlen : (textL m v k).length < 9223372036854775808 := by rw [textL_length]; omega
      refine H.box 46 (cv _ _) (cs := cc _ _) rfl ?_
      clear H
      intro g1 w1 H
      refine len_str Try.underlying9 ?_
      rw [hsz]
      refine cond_no (decide_eq_false (by omega)) ?_
      refine call_fn (c62 _ (by first | assumption | omega | decide | (repeat' (first | assumption | refine and_lt8 ?_ _ | refine xor_lt8 ?_ ?_ | refine or_lt8 ?_ ?_))) _) ?_
      rintro _ w5 ⟨rfl, hk⟩
      replace H := H.same hk
      clear hk
      rw [parseC_ok hp]
      rw [parse_e0 hp]
      refine H.alloc 46 (cs := cc 0 0) zero46 rfl ?_
      clear H
      intro g9 w9 H
      refine H.storeCube 0 rfl ?_
      clear H
      intro w10 H
      refine call_fn (c63 _ (by first | assumption | omega | decide | (repeat' (first | assumption | refine and_lt8 ?_ _ | refine xor_lt8 ?_ ?_ | refine or_lt8 ?_ ?_))) _) ?_
      rintro _ w11 ⟨rfl, hk⟩
      replace H := H.same hk
      clear hk
      rw [parseC_ok hp]
      rw [hp]
      refine H.alloc 46 (cs := cc 0 0) zero46 rfl ?_
      clear H
      intro g14 w14 H
      refine H.storeCube 0 rfl ?_
      clear H
      intro w15 H
      refine H.loadAll 1 rfl agg46 size46 ?_
      refine H.loadAll 0 rfl agg46 size46 ?_
      refine bin_neq46 ?_
      iterate 4 refine cond_no (by simp) ?_
      refine bin_neq_bool Try.underlying4 ?_
      refine cond_no (by simp) ?_
      iterate 9 refine cond_no rfl ?_
      refine cond_yes rfl ?_
      refine H.loadAll 1 rfl agg46 size46 ?_
      refine len_str Try.underlying9 ?_
      rw [hsz]
      refine call_fn (c56_a _ _ (by first | assumption | omega | decide | (repeat' (first | assumption | refine and_lt8 ?_ _ | refine xor_lt8 ?_ ?_ | refine or_lt8 ?_ ?_))) (by first | assumption | omega | decide | (repeat' (first | assumption | refine and_lt8 ?_ _ | refine xor_lt8 ?_ ?_ | refine or_lt8 ?_ ?_))) _ (by first | assumption | omega | decide | (repeat' (first | assumption | refine and_lt8 ?_ _ | refine xor_lt8 ?_ ?_ | refine or_lt8 ?_ ?_))) (by first | assumption | omega | decide | (repeat' (first | assumption | refine and_lt8 ?_ _ | refine xor_lt8 ?_ ?_ | refine or_lt8 ?_ ?_))) _) ?_
      rintro _ w38 ⟨rfl, hk⟩
      replace H := H.same hk
      clear hk
      rw [hpt]
      refine bin_neq_strL ?_
      iterate 3 refine cond_no (by simp) ?_
      refine cond_no rfl ?_
      refine H.loadAll 2 rfl agg46 size46 ?_
      refine call_fn (c56_a _ _ (by first | assumption | omega | decide | (repeat' (first | assumption | refine and_lt8 ?_ _ | refine xor_lt8 ?_ ?_ | refine or_lt8 ?_ ?_))) (by first | assumption | omega | decide | (repeat' (first | assumption | refine and_lt8 ?_ _ | refine xor_lt8 ?_ ?_ | refine or_lt8 ?_ ?_))) _ (by first | assumption | omega | decide | (repeat' (first | assumption | refine and_lt8 ?_ _ | refine xor_lt8 ?_ ?_ | refine or_lt8 ?_ ?_))) (by first | assumption | omega | decide | (repeat' (first | assumption | refine and_lt8 ?_ _ | refine xor_lt8 ?_ ?_ | refine or_lt8 ?_ ?_))) _) ?_
      rintro _ w46 ⟨rfl, hk⟩
      replace H := H.same hk
      clear hk
      refine cond_no rfl ?_
      refine call_fn (c62 _ (by first | assumption | omega | decide | (repeat' (first | assumption | refine and_lt8 ?_ _ | refine xor_lt8 ?_ ?_ | refine or_lt8 ?_ ?_))) _) ?_
      rintro _ w48 ⟨rfl, hk⟩
      replace H := H.same hk
      clear hk
      rw [ht1]
      rw [ht2]
      refine H.alloc 46 (cs := cc 0 0) zero46 rfl ?_
      clear H
      intro g51 w51 H
      refine H.storeCube 0 rfl ?_
      clear H
      intro w52 H
      refine H.loadAll 0 rfl agg46 size46 ?_
      refine H.loadAll 3 rfl agg46 size46 ?_
      refine bin_eql46 ?_
      iterate 3 refine cond_yes (by simp) ?_
      refine cond_yes rfl ?_
      refine call_fn (c59 _) ?_
      rintro _ w60 ⟨rfl, hk⟩
      replace H := H.same hk
      clear hk
      refine cond_yes rfl ?_
      exact ⟨rfl, H.keeps⟩
end Go.Proofs.Ytjebpngdinbckaa
end

section
/- More arguments of laws, opened: cubes and texts. -/
namespace Go.Proofs.Ytjebpngdinbckaa
open Go.Dk Go.ChangeShapes Go.WideShapes Go.ChangeAt Go.RowKit Go.ChangeMaps
section
variable {H : Type} {enc : TypeId × Value → H} {w : World} {base b : Nat} {spare : Nat → Bool} {held : Bool}
theorem byte_at {fuel : Nat} {c : Value} {x : DataW H × List MemPlace} (h : DataW.trod enc Try.prog w base spare held fuel 5 [c] = some x) : ∃ n : Nat, c = .int .u8 n ∧ n < 256 := by
  obtain ⟨m, hc, rfl, hw⟩ := DataW.trod_int Try.underlying5 h
  simp [Lit.wf, IntKind.min, IntKind.max, IntKind.signed, IntKind.bits] at hw
  obtain ⟨n, rfl⟩ := Int.eq_ofNat_of_zero_le hw.1
  simp at hc
  exact ⟨n, hc, by omega⟩
set_option maxRecDepth 100000 in
theorem cube_at {fuel : Nat} {cs : List Value} {x : DataW H × List MemPlace} (h : DataW.trod enc Try.prog w base spare held fuel 46 cs = some x) : ∃ m s : Nat, m < 256 ∧ s < 256 ∧ cs = (cc m s).toList := by
  obtain ⟨y0, y1, n, _, hl, h0, h1⟩ := trod_struct2 Try.underlying46 h
  have h2 : Try.prog.cellsOf 46 = 2 := by kernel_rfl
  have h5 : Try.prog.cellsOf 5 = 1 := by kernel_rfl
  rw [h2] at hl
  rw [h5] at h0 h1
  match cs, hl, h0, h1 with
  | [c0, c1], _, h0, h1 =>
    obtain ⟨m, rfl, hm⟩ := byte_at h0
    obtain ⟨s, rfl, hs⟩ := byte_at h1
    exact ⟨m, s, hm, hs, rfl⟩
set_option maxRecDepth 100000 in
theorem arg_cube {v : Value} {d : DataW H} {ps : List MemPlace} (hval : Value.okWide Try.prog w .any b 46 v) (h : DataW.Trod enc Try.prog w base spare held 46 v d ps) : ∃ m s, m < 256 ∧ s < 256 ∧ v = cv m s := by
  unfold Value.okWide at hval
  rw [Try.underlying46] at hval
  obtain ⟨cs, rfl, hsz, _⟩ := hval
  obtain ⟨fuel, hf⟩ := h
  obtain ⟨m, s, hm, hs, he⟩ := cube_at hf
  refine ⟨m, s, hm, hs, ?_⟩
  have he' : cs.toList = (cc m s).toList := he
  have : cs = cc m s := Array.toList_inj.1 he'
  rw [this]; rfl
set_option maxRecDepth 100000 in
theorem arg_str {v : Value} {d : DataW H} {ps : List MemPlace} (hval : Value.okWide Try.prog w .any b 9 v) (h : DataW.Trod enc Try.prog w base spare held 9 v d ps) : ∃ l : List UInt8, l.length < 9223372036854775808 ∧ v = strV l := by
  obtain ⟨s, rfl, _, _, hs⟩ := open_string Try.underlying9 hval h
  refine ⟨s.data.toList, ?_, ?_⟩
  · have : s.size = s.data.toList.length := rfl
    unfold maxLen at hs
    omega
  · unfold strV; simp
end
end Go.Proofs.Ytjebpngdinbckaa
end

section
/- The statements of chapter 2: CubeSets. -/
namespace Go.Dk
/-- The same parts in another world. -/
abbrev Hp.cl {w0 w : World} {F : Nat → Prop} {L M : List Res} (_ : Hp w0 F w L M) (w' : World) : Prop := Hp w0 F w' L M
end Go.Dk
namespace Go.Proofs.Ytjebpngdinbckaa
open Go.Dk
attribute [local irreducible] IntKind.wrap

theorem dbl {a i : Nat} (hi : a ≤ i) (h8 : i ≤ 8) : Value.int .i64 (IntKind.i64.wrap (2 * ((2 ^ (i - a) : Nat) : Int))) = Value.int .i64 ((2 ^ (i + 1 - a) : Nat) : Int) := by
  have h2 : 2 ^ (i - a) ≤ 2 ^ 8 := Nat.pow_le_pow_right (by decide) (by omega)
  rw [show i + 1 - a = (i - a) + 1 by omega, Nat.pow_succ]
  generalize 2 ^ (i - a) = p at h2 ⊢
  rw [wrap_i64_in (by omega) (by omega)]
  congr 1; omega
theorem ent12 : enters Try.prog 12 = true := by kernel_rfl
theorem law12_f (m v x y c s : Nat) (hm : m < 256) (hv : v < 256) (hx : x < 256) (hy : y < 256) (hc : c < 256) (hs : s < 256) (n : Int) (w : World) (h : rightN m v n = false ∨ rightN x y n = false ∨ rightN c s n = false) :
    Fun Try.prog 12 [cv m v, cv x y, cv c s, .int .i64 n] w fun v w' => v = .bool true ∧ Same w w' := by
  refine fun_of_W (N := 130) Try.func12 ent12 rfl rfl rfl (by simp) ?_
  have H := Hp.start0 w
  cases h1 : rightN m v n with
  | false => refine H.box 46 (cv _ _) (cs := cc _ _) rfl ?_
             clear H
             intro g2 w2 H
             refine H.box 46 (cv _ _) (cs := cc _ _) rfl ?_
             clear H
             intro g3 w3 H
             refine H.box 46 (cv _ _) (cs := cc _ _) rfl ?_
             clear H
             intro g4 w4 H
             refine H.loadAll 2 rfl agg46 size46 ?_
             refine call_fn (c57 _ _ (by assumption) (by assumption) _ _) ?_
             rintro _ w6 ⟨rfl, hk⟩
             replace H := H.same hk
             clear hk
             rw [h1]
             iterate 11 refine cond_yes rfl ?_
             refine call_fn (c59 _) ?_
             rintro _ w19 ⟨rfl, hk⟩
             replace H := H.same hk
             clear hk
             exact ⟨rfl, H.keeps⟩
  | true =>
    cases h2 : rightN x y n with
    | false => refine H.box 46 (cv _ _) (cs := cc _ _) rfl ?_
               clear H
               intro g3 w3 H
               refine H.box 46 (cv _ _) (cs := cc _ _) rfl ?_
               clear H
               intro g4 w4 H
               refine H.box 46 (cv _ _) (cs := cc _ _) rfl ?_
               clear H
               intro g5 w5 H
               refine H.loadAll 2 rfl agg46 size46 ?_
               refine call_fn (c57 _ _ (by assumption) (by assumption) _ _) ?_
               rintro _ w7 ⟨rfl, hk⟩
               replace H := H.same hk
               clear hk
               rw [h1]
               refine cond_no rfl ?_
               refine H.loadAll 1 rfl agg46 size46 ?_
               iterate 2 refine cond_no rfl ?_
               refine call_fn (c57 _ _ (by assumption) (by assumption) _ _) ?_
               rintro _ w13 ⟨rfl, hk⟩
               replace H := H.same hk
               clear hk
               rw [h2]
               iterate 2 refine cond_no rfl ?_
               iterate 6 refine cond_yes rfl ?_
               refine call_fn (c59 _) ?_
               rintro _ w23 ⟨rfl, hk⟩
               replace H := H.same hk
               clear hk
               exact ⟨rfl, H.keeps⟩
    | true =>
      have h3 : rightN c s n = false := by simpa [h1, h2] using h
      refine H.box 46 (cv _ _) (cs := cc _ _) rfl ?_
      clear H
      intro g4 w4 H
      refine H.box 46 (cv _ _) (cs := cc _ _) rfl ?_
      clear H
      intro g5 w5 H
      refine H.box 46 (cv _ _) (cs := cc _ _) rfl ?_
      clear H
      intro g6 w6 H
      refine H.loadAll 2 rfl agg46 size46 ?_
      refine call_fn (c57 _ _ (by assumption) (by assumption) _ _) ?_
      rintro _ w8 ⟨rfl, hk⟩
      replace H := H.same hk
      clear hk
      rw [h1]
      refine cond_no rfl ?_
      refine H.loadAll 1 rfl agg46 size46 ?_
      iterate 2 refine cond_no rfl ?_
      refine call_fn (c57 _ _ (by assumption) (by assumption) _ _) ?_
      rintro _ w14 ⟨rfl, hk⟩
      replace H := H.same hk
      clear hk
      rw [h2]
      iterate 3 refine cond_no rfl ?_
      refine H.loadAll 0 rfl agg46 size46 ?_
      iterate 2 refine cond_no rfl ?_
      refine call_fn (c57 _ _ (by assumption) (by assumption) _ _) ?_
      rintro _ w22 ⟨rfl, hk⟩
      replace H := H.same hk
      clear hk
      rw [h3]
      iterate 2 refine cond_no rfl ?_
      refine cond_yes rfl ?_
      refine call_fn (c59 _) ?_
      rintro _ w27 ⟨rfl, hk⟩
      replace H := H.same hk
      clear hk
      exact ⟨rfl, H.keeps⟩
theorem law12_0 (m v x y c s : Nat) (hm : m < 256) (hv : v < 256) (hx : x < 256) (hy : y < 256) (hc : c < 256) (hs : s < 256) (k : Nat) (hk8 : k ≤ 8) (w : World)
    (h1 : rightN m v (k : Int) = true) (h2 : rightN x y (k : Int) = true) (h3 : rightN c s (k : Int) = true) (hmt : meetB m v x y = false) (hpk : popc m ≤ k) (hpts : cubeP m v k &&& cubeP x y k = 0)
    (hcnt : popc (cubeP m v k) = 2 ^ (k - popc m)) (hhp : holdsB m v x y = (lessN (cubeP x y k) (cubeP m v k) == 0)) (hzr : rightN 0 0 (k : Int) = true) :
    Fun Try.prog 12 [cv m v, cv x y, cv c s, .int .i64 (k : Int)] w fun v w' => v = .bool true ∧ Same w w' := by
  obtain ⟨hj1, hj2⟩ := join_holds hm hv hx hy
  have hjl := join_least (c := c) (s := s) hm hv hx hy hc
  have ha := cubeP_lt m v k
  have hb := cubeP_lt x y k
  have hz := cubeP_lt (meetM m x) (meetV m v x y) k
  refine fun_of_W (N := 130) Try.func12 ent12 rfl rfl rfl (by simp) ?_
  have H := Hp.start0 w
  refine H.box 46 (cv _ _) (cs := cc _ _) rfl ?_
  clear H
  intro g4 w4 H
  refine H.box 46 (cv _ _) (cs := cc _ _) rfl ?_
  clear H
  intro g5 w5 H
  refine H.box 46 (cv _ _) (cs := cc _ _) rfl ?_
  clear H
  intro g6 w6 H
  refine H.loadAll 2 rfl agg46 size46 ?_
  refine call_fn (c57_a _ _ (by assumption) (by assumption) _ (by assumption) _) ?_
  rintro _ w8 ⟨rfl, hk⟩
  replace H := H.same hk
  clear hk
  rw [h1]
  refine cond_no rfl ?_
  refine H.loadAll 1 rfl agg46 size46 ?_
  iterate 2 refine cond_no rfl ?_
  refine call_fn (c57_a _ _ (by assumption) (by assumption) _ (by assumption) _) ?_
  rintro _ w14 ⟨rfl, hk⟩
  replace H := H.same hk
  clear hk
  rw [h2]
  iterate 3 refine cond_no rfl ?_
  refine H.loadAll 0 rfl agg46 size46 ?_
  iterate 2 refine cond_no rfl ?_
  refine call_fn (c57_a _ _ (by assumption) (by assumption) _ (by assumption) _) ?_
  rintro _ w22 ⟨rfl, hk⟩
  replace H := H.same hk
  clear hk
  rw [h3]
  iterate 3 refine cond_no rfl ?_
  refine H.loadAll 2 rfl agg46 size46 ?_
  refine call_fn (c55_a _ _ (by assumption) (by assumption) _ (by assumption) (by assumption) _) ?_
  rintro _ w28 ⟨rfl, hk⟩
  replace H := H.same hk
  clear hk
  refine H.alloc 24 (cs := sc 0) zero24 sc_zero ?_
  clear H
  intro g29 w29 H
  refine H.storeSet 0 rfl ?_
  clear H
  intro w30 H
  refine H.loadAll 2 rfl agg46 size46 ?_
  refine call_fn (c55_a _ _ (by assumption) (by assumption) _ (by assumption) (by assumption) _) ?_
  rintro _ w32 ⟨rfl, hk⟩
  replace H := H.same hk
  clear hk
  refine H.alloc 24 (cs := sc 0) zero24 sc_zero ?_
  clear H
  intro g33 w33 H
  refine H.storeSet 0 rfl ?_
  clear H
  intro w34 H
  refine H.loadAll 4 rfl agg46 size46 ?_
  refine H.loadAll 3 rfl agg46 size46 ?_
  refine call_fn (c75 _ _ _ _ (by assumption) (by assumption) (by assumption) (by assumption) _) ?_
  rintro _ w37 ⟨rfl, hk⟩
  replace H := H.same hk
  clear hk
  rw [hmt]
  refine H.alloc 46 (cs := cc 0 0) zero46 rfl ?_
  clear H
  intro g39 w39 H
  refine H.storeCube 0 rfl ?_
  clear H
  intro w40 H
  refine H.loadAll 0 rfl agg46 size46 ?_
  refine call_fn (c55_a _ _ (by first | assumption | omega | decide) (by first | assumption | omega | decide) _ (by first | assumption | omega | decide) (by first | assumption | omega | decide) _) ?_
  rintro _ w42 ⟨rfl, hk⟩
  replace H := H.same hk
  clear hk
  refine H.alloc 24 (cs := sc 0) zero24 sc_zero ?_
  clear H
  intro g43 w43 H
  refine H.storeSet 0 rfl ?_
  clear H
  intro w44 H
  refine cond_yes rfl ?_
  refine build24z ?_
  refine H.storeSet 0 rfl ?_
  clear H
  intro w47 H
  refine H.loadAll 6 rfl agg46 size46 ?_
  refine call_fn (c76 _ _ (by assumption) _) ?_
  rintro _ w49 ⟨rfl, hk⟩
  replace H := H.same hk
  clear hk
  refine loop_rule (γ := Nat) _ rfl (fun i => [(18, .int .i64 (i : Int)), (17, .int .i64 ((2 ^ (i - popc m) : Nat) : Int))]) (fun i w' => (popc m ≤ i ∧ i ≤ k) ∧ H.cl w') (fun i => k - i) (popc m) ⟨rfl, by rw [Nat.sub_self]; rfl, trivial⟩ ⟨⟨Nat.le_refl _, hpk⟩, H⟩ ?_
  rintro i u w8 ⟨⟨hi1, hi2⟩, H2⟩
  have H : Hp _ _ _ _ _ := H2
  refine cond_dec (fun h9 => ?_) (fun h9 => ?_)
  · exact ⟨i + 1, by omega, ⟨up (by omega), dbl (by omega) (by omega), trivial⟩, ⟨by omega, by omega⟩, H2⟩
  · obtain rfl : i = k := by omega
    refine H.loadAll 6 rfl agg46 size46 ?_
    refine H.loadAll 5 rfl agg46 size46 ?_
    refine call_fn (c77 _ _ _ _ (by assumption) (by assumption) (by assumption) (by assumption) _) ?_
    rintro _ w11 ⟨rfl, hk⟩
    replace H := H.same hk
    clear hk
    refine H.alloc 46 (cs := cc 0 0) zero46 rfl ?_
    clear H
    intro g12 w12 H
    refine H.storeCube 0 rfl ?_
    clear H
    intro w13 H
    refine H.draw fol (by kernel_rfl) ?_
    clear H
    intro w15 H
    refine quiet _ (fun w H => H.loadAll 4 rfl agg24 size24 ⟨rfl, rfl⟩) ?_
    refine call_fn (c43 _ ha _) ?_
    rintro _ w7 ⟨rfl, hk⟩
    replace H := H.same hk
    clear hk
    refine ⟨.inl H, ?_⟩
    iterate 3 refine cond_no (bne_eq_false_iff_eq.2 (by omega)) ?_
    refine cond_no rfl ?_
    refine quiet _ (fun w H => H.loadAll 7 rfl agg46 size46 ⟨rfl, rfl⟩) ?_
    refine cond_no rfl ?_
    refine quiet _ (fun w H => H.loadAll 6 rfl agg46 size46 ⟨rfl, rfl⟩) ?_
    refine cond_no rfl ?_
    refine call_fn (c78 _ _ _ _ (by assumption) (by assumption) (by assumption) (by assumption) _) ?_
    rintro _ w25 ⟨rfl, hk⟩
    replace H := H.same hk
    clear hk
    refine ⟨.inl H, ?_⟩
    refine cond_no rfl ?_
    refine quiet _ (fun w H => H.loadAll 3 rfl agg24 size24 ⟨rfl, rfl⟩) ?_
    refine cond_no rfl ?_
    refine quiet _ (fun w H => H.loadAll 4 rfl agg24 size24 ⟨rfl, rfl⟩) ?_
    refine cond_no rfl ?_
    refine call_fn (c54 _ _ hb _) ?_
    rintro _ w10 ⟨rfl, hk⟩
    replace H := H.same hk
    clear hk
    refine ⟨.inl H, ?_⟩
    refine cond_no rfl ?_
    refine quiet _ (fun w H => bin_neq_bool Try.underlying4 ⟨rfl, rfl⟩) ?_
    refine cond_no rfl ?_
    refine cond_no (bne_eq_false_iff_eq.2 (by omega)) ?_
    refine quiet _ (fun w H => H.loadAll 4 rfl agg24 size24 ⟨rfl, rfl⟩) ?_
    refine cond_no (bne_eq_false_iff_eq.2 (by omega)) ?_
    refine quiet _ (fun w H => H.loadAll 3 rfl agg24 size24 ⟨rfl, rfl⟩) ?_
    refine cond_no (bne_eq_false_iff_eq.2 (by omega)) ?_
    refine call_fn (c51 _ _ _) ?_
    rintro _ w27 ⟨rfl, hk⟩
    replace H := H.same hk
    clear hk
    rw [hpts]
    refine ⟨.inl H, ?_⟩
    refine cond_no (bne_eq_false_iff_eq.2 (by omega)) ?_
    refine quiet _ (fun w H => H.loadAll 1 rfl agg24 size24 ⟨rfl, rfl⟩) ?_
    refine cond_no (bne_eq_false_iff_eq.2 (by omega)) ?_
    refine quiet _ (fun w H => bin_neq24 (by first | assumption | decide) (by first | assumption | decide) ⟨rfl, rfl⟩) ?_
    refine cond_no (bne_eq_false_iff_eq.2 (by omega)) ?_
    refine cond_no rfl ?_
    refine quiet _ (fun w H => H.loadAll 0 rfl agg46 size46 ⟨rfl, rfl⟩) ?_
    refine cond_no rfl ?_
    refine quiet _ (fun w H => H.loadAll 7 rfl agg46 size46 ⟨rfl, rfl⟩) ?_
    refine cond_no rfl ?_
    refine call_fn (c78 _ _ _ _ (by first | assumption | omega | decide | (repeat' (first | assumption | refine and_lt8 ?_ _ | refine xor_lt8 ?_ ?_ | refine or_lt8 ?_ ?_))) (by first | assumption | omega | decide | (repeat' (first | assumption | refine and_lt8 ?_ _ | refine xor_lt8 ?_ ?_ | refine or_lt8 ?_ ?_))) (by first | assumption | omega | decide | (repeat' (first | assumption | refine and_lt8 ?_ _ | refine xor_lt8 ?_ ?_ | refine or_lt8 ?_ ?_))) (by first | assumption | omega | decide | (repeat' (first | assumption | refine and_lt8 ?_ _ | refine xor_lt8 ?_ ?_ | refine or_lt8 ?_ ?_))) _) ?_
    rintro _ w54 ⟨rfl, hk⟩
    replace H := H.same hk
    clear hk
    refine ⟨.inl H, ?_⟩
    iterate 2 refine cond_no rfl ?_
    refine cond_no (by simp only [*, Bool.not_false, Bool.not_true]) ?_
    refine quiet _ (fun w H => H.loadAll 0 rfl agg46 size46 ⟨rfl, rfl⟩) ?_
    refine cond_no (by simp only [*, Bool.not_false, Bool.not_true]) ?_
    refine quiet _ (fun w H => H.loadAll 6 rfl agg46 size46 ⟨rfl, rfl⟩) ?_
    refine cond_no (by simp only [*, Bool.not_false, Bool.not_true]) ?_
    refine call_fn (c78 _ _ _ _ (by first | assumption | omega | decide | (repeat' (first | assumption | refine and_lt8 ?_ _ | refine xor_lt8 ?_ ?_ | refine or_lt8 ?_ ?_))) (by first | assumption | omega | decide | (repeat' (first | assumption | refine and_lt8 ?_ _ | refine xor_lt8 ?_ ?_ | refine or_lt8 ?_ ?_))) (by first | assumption | omega | decide | (repeat' (first | assumption | refine and_lt8 ?_ _ | refine xor_lt8 ?_ ?_ | refine or_lt8 ?_ ?_))) (by first | assumption | omega | decide | (repeat' (first | assumption | refine and_lt8 ?_ _ | refine xor_lt8 ?_ ?_ | refine or_lt8 ?_ ?_))) _) ?_
    rintro _ w63 ⟨rfl, hk⟩
    replace H := H.same hk
    clear hk
    refine ⟨.inl H, ?_⟩
    iterate 3 refine cond_no (by simp only [*, Bool.not_false, Bool.not_true]) ?_
    refine H.loadAll 5 rfl agg46 size46 ?_
    refine H.loadAll 7 rfl agg46 size46 ?_
    refine call_fn (c78 _ _ _ _ (by assumption) (by assumption) (by assumption) (by assumption) _) ?_
    rintro _ w70 ⟨rfl, hk⟩
    replace H := H.same hk
    clear hk
    refine cond_split (fun h71 => ?_) (fun h71 => ?_)
    · refine cond_yes (by assumption) ?_
      iterate 3 refine cond_yes (by assumption) ?_
      iterate 5 refine cond_yes rfl ?_
      refine call_fn (c59 _) ?_
      rintro _ w81 ⟨rfl, hk⟩
      replace H := H.same hk
      clear hk
      refine cond_yes rfl ?_
      exact ⟨rfl, H.keeps⟩
    · refine H.loadAll 5 rfl agg46 size46 ?_
      refine cond_no (by assumption) ?_
      refine H.loadAll 6 rfl agg46 size46 ?_
      refine cond_no (by assumption) ?_
      refine call_fn (c78 _ _ _ _ (by assumption) (by assumption) (by assumption) (by assumption) _) ?_
      rintro _ w88 ⟨rfl, hk⟩
      replace H := H.same hk
      clear hk
      iterate 2 refine cond_no (by assumption) ?_
      refine cond_split (fun h91 => ?_) (fun h91 => ?_)
      · refine cond_yes (by assumption) ?_
        iterate 2 refine cond_yes (by assumption) ?_
        refine cond_yes rfl ?_
        refine call_fn (c59 _) ?_
        rintro _ w96 ⟨rfl, hk⟩
        replace H := H.same hk
        clear hk
        refine cond_yes rfl ?_
        exact ⟨rfl, H.keeps⟩
      · refine H.loadAll 5 rfl agg46 size46 ?_
        refine cond_no (by assumption) ?_
        refine H.loadAll 0 rfl agg46 size46 ?_
        refine cond_no (by assumption) ?_
        refine call_fn (c78 _ _ _ _ (by first | assumption | omega | decide | (repeat' (first | assumption | refine and_lt8 ?_ _ | refine xor_lt8 ?_ ?_ | refine or_lt8 ?_ ?_))) (by first | assumption | omega | decide | (repeat' (first | assumption | refine and_lt8 ?_ _ | refine xor_lt8 ?_ ?_ | refine or_lt8 ?_ ?_))) (by first | assumption | omega | decide | (repeat' (first | assumption | refine and_lt8 ?_ _ | refine xor_lt8 ?_ ?_ | refine or_lt8 ?_ ?_))) (by first | assumption | omega | decide | (repeat' (first | assumption | refine and_lt8 ?_ _ | refine xor_lt8 ?_ ?_ | refine or_lt8 ?_ ?_))) _) ?_
        rintro _ w103 ⟨rfl, hk⟩
        replace H := H.same hk
        clear hk
        refine cond_no (by assumption) ?_
        refine cond_split (fun h105 => ?_) (fun h105 => ?_)
        · refine call_fn (c59 _) ?_
          rintro _ w106 ⟨rfl, hk⟩
          replace H := H.same hk
          clear hk
          refine cond_yes (by assumption) ?_
          exact ⟨rfl, H.keeps⟩
        · exact absurd (hjl (by simpa using ‹(!holdsB c s m v) = false›) (by simpa using ‹(!holdsB c s x y) = false›)) (by rw [‹holdsB c s (joinM m v x y) (v &&& joinM m v x y) = false›]; decide)
theorem law12_1 (m v x y c s : Nat) (hm : m < 256) (hv : v < 256) (hx : x < 256) (hy : y < 256) (hc : c < 256) (hs : s < 256) (k : Nat) (hk8 : k ≤ 8) (w : World)
    (h1 : rightN m v (k : Int) = true) (h2 : rightN x y (k : Int) = true) (h3 : rightN c s (k : Int) = true) (hmt : meetB m v x y = true) (hpk : popc m ≤ k) (hpts : cubeP m v k &&& cubeP x y k = cubeP (meetM m x) (meetV m v x y) k)
    (hcnt : popc (cubeP m v k) = 2 ^ (k - popc m)) (hhp : holdsB m v x y = (lessN (cubeP x y k) (cubeP m v k) == 0)) (hM : meetM m x < 256) (hV : meetV m v x y < 256) (hmr : rightN (meetM m x) (meetV m v x y) (k : Int) = true) :
    Fun Try.prog 12 [cv m v, cv x y, cv c s, .int .i64 (k : Int)] w fun v w' => v = .bool true ∧ Same w w' := by
  obtain ⟨hj1, hj2⟩ := join_holds hm hv hx hy
  have hjl := join_least (c := c) (s := s) hm hv hx hy hc
  have ha := cubeP_lt m v k
  have hb := cubeP_lt x y k
  have hz := cubeP_lt (meetM m x) (meetV m v x y) k
  refine fun_of_W (N := 130) Try.func12 ent12 rfl rfl rfl (by simp) ?_
  have H := Hp.start0 w
  refine H.box 46 (cv _ _) (cs := cc _ _) rfl ?_
  clear H
  intro g4 w4 H
  refine H.box 46 (cv _ _) (cs := cc _ _) rfl ?_
  clear H
  intro g5 w5 H
  refine H.box 46 (cv _ _) (cs := cc _ _) rfl ?_
  clear H
  intro g6 w6 H
  refine H.loadAll 2 rfl agg46 size46 ?_
  refine call_fn (c57_a _ _ (by assumption) (by assumption) _ (by assumption) _) ?_
  rintro _ w8 ⟨rfl, hk⟩
  replace H := H.same hk
  clear hk
  rw [h1]
  refine cond_no rfl ?_
  refine H.loadAll 1 rfl agg46 size46 ?_
  iterate 2 refine cond_no rfl ?_
  refine call_fn (c57_a _ _ (by assumption) (by assumption) _ (by assumption) _) ?_
  rintro _ w14 ⟨rfl, hk⟩
  replace H := H.same hk
  clear hk
  rw [h2]
  iterate 3 refine cond_no rfl ?_
  refine H.loadAll 0 rfl agg46 size46 ?_
  iterate 2 refine cond_no rfl ?_
  refine call_fn (c57_a _ _ (by assumption) (by assumption) _ (by assumption) _) ?_
  rintro _ w22 ⟨rfl, hk⟩
  replace H := H.same hk
  clear hk
  rw [h3]
  iterate 3 refine cond_no rfl ?_
  refine H.loadAll 2 rfl agg46 size46 ?_
  refine call_fn (c55_a _ _ (by assumption) (by assumption) _ (by assumption) (by assumption) _) ?_
  rintro _ w28 ⟨rfl, hk⟩
  replace H := H.same hk
  clear hk
  refine H.alloc 24 (cs := sc 0) zero24 sc_zero ?_
  clear H
  intro g29 w29 H
  refine H.storeSet 0 rfl ?_
  clear H
  intro w30 H
  refine H.loadAll 2 rfl agg46 size46 ?_
  refine call_fn (c55_a _ _ (by assumption) (by assumption) _ (by assumption) (by assumption) _) ?_
  rintro _ w32 ⟨rfl, hk⟩
  replace H := H.same hk
  clear hk
  refine H.alloc 24 (cs := sc 0) zero24 sc_zero ?_
  clear H
  intro g33 w33 H
  refine H.storeSet 0 rfl ?_
  clear H
  intro w34 H
  refine H.loadAll 4 rfl agg46 size46 ?_
  refine H.loadAll 3 rfl agg46 size46 ?_
  refine call_fn (c75 _ _ _ _ (by assumption) (by assumption) (by assumption) (by assumption) _) ?_
  rintro _ w37 ⟨rfl, hk⟩
  replace H := H.same hk
  clear hk
  rw [hmt]
  refine H.alloc 46 (cs := cc 0 0) zero46 rfl ?_
  clear H
  intro g39 w39 H
  refine H.storeCube 0 rfl ?_
  clear H
  intro w40 H
  refine H.loadAll 0 rfl agg46 size46 ?_
  refine call_fn (c55_a _ _ (by assumption) (by assumption) _ (by assumption) (by assumption) _) ?_
  rintro _ w42 ⟨rfl, hk⟩
  replace H := H.same hk
  clear hk
  refine H.alloc 24 (cs := sc 0) zero24 sc_zero ?_
  clear H
  intro g43 w43 H
  refine H.storeSet 0 rfl ?_
  clear H
  intro w44 H
  refine cond_no rfl ?_
  refine H.loadAll 6 rfl agg46 size46 ?_
  refine call_fn (c76 _ _ (by assumption) _) ?_
  rintro _ w47 ⟨rfl, hk⟩
  replace H := H.same hk
  clear hk
  refine loop_rule (γ := Nat) _ rfl (fun i => [(18, .int .i64 (i : Int)), (17, .int .i64 ((2 ^ (i - popc m) : Nat) : Int))]) (fun i w' => (popc m ≤ i ∧ i ≤ k) ∧ H.cl w') (fun i => k - i) (popc m) ⟨rfl, by rw [Nat.sub_self]; rfl, trivial⟩ ⟨⟨Nat.le_refl _, hpk⟩, H⟩ ?_
  rintro i u w8 ⟨⟨hi1, hi2⟩, H2⟩
  have H : Hp _ _ _ _ _ := H2
  refine cond_dec (fun h9 => ?_) (fun h9 => ?_)
  · exact ⟨i + 1, by omega, ⟨up (by omega), dbl (by omega) (by omega), trivial⟩, ⟨by omega, by omega⟩, H2⟩
  · obtain rfl : i = k := by omega
    refine H.loadAll 6 rfl agg46 size46 ?_
    refine H.loadAll 5 rfl agg46 size46 ?_
    refine call_fn (c77 _ _ _ _ (by assumption) (by assumption) (by assumption) (by assumption) _) ?_
    rintro _ w11 ⟨rfl, hk⟩
    replace H := H.same hk
    clear hk
    refine H.alloc 46 (cs := cc 0 0) zero46 rfl ?_
    clear H
    intro g12 w12 H
    refine H.storeCube 0 rfl ?_
    clear H
    intro w13 H
    refine H.draw fol (by kernel_rfl) ?_
    clear H
    intro w15 H
    refine quiet _ (fun w H => H.loadAll 4 rfl agg24 size24 ⟨rfl, rfl⟩) ?_
    refine call_fn (c43 _ ha _) ?_
    rintro _ w7 ⟨rfl, hk⟩
    replace H := H.same hk
    clear hk
    refine ⟨.inl H, ?_⟩
    iterate 3 refine cond_no (bne_eq_false_iff_eq.2 (by omega)) ?_
    refine cond_no rfl ?_
    refine quiet _ (fun w H => H.loadAll 7 rfl agg46 size46 ⟨rfl, rfl⟩) ?_
    refine cond_no rfl ?_
    refine quiet _ (fun w H => H.loadAll 6 rfl agg46 size46 ⟨rfl, rfl⟩) ?_
    refine cond_no rfl ?_
    refine call_fn (c78 _ _ _ _ (by assumption) (by assumption) (by assumption) (by assumption) _) ?_
    rintro _ w25 ⟨rfl, hk⟩
    replace H := H.same hk
    clear hk
    refine ⟨.inl H, ?_⟩
    refine cond_no rfl ?_
    refine quiet _ (fun w H => H.loadAll 3 rfl agg24 size24 ⟨rfl, rfl⟩) ?_
    refine cond_no rfl ?_
    refine quiet _ (fun w H => H.loadAll 4 rfl agg24 size24 ⟨rfl, rfl⟩) ?_
    refine cond_no rfl ?_
    refine call_fn (c54 _ _ hb _) ?_
    rintro _ w10 ⟨rfl, hk⟩
    replace H := H.same hk
    clear hk
    refine ⟨.inl H, ?_⟩
    refine cond_no rfl ?_
    refine quiet _ (fun w H => bin_neq_bool Try.underlying4 ⟨rfl, rfl⟩) ?_
    refine cond_no rfl ?_
    refine cond_no (bne_eq_false_iff_eq.2 (by omega)) ?_
    refine quiet _ (fun w H => H.loadAll 4 rfl agg24 size24 ⟨rfl, rfl⟩) ?_
    refine cond_no (bne_eq_false_iff_eq.2 (by omega)) ?_
    refine quiet _ (fun w H => H.loadAll 3 rfl agg24 size24 ⟨rfl, rfl⟩) ?_
    refine cond_no (bne_eq_false_iff_eq.2 (by omega)) ?_
    refine call_fn (c51 _ _ _) ?_
    rintro _ w27 ⟨rfl, hk⟩
    replace H := H.same hk
    clear hk
    rw [hpts]
    refine ⟨.inl H, ?_⟩
    refine cond_no (bne_eq_false_iff_eq.2 (by omega)) ?_
    refine quiet _ (fun w H => H.loadAll 1 rfl agg24 size24 ⟨rfl, rfl⟩) ?_
    refine cond_no (bne_eq_false_iff_eq.2 (by omega)) ?_
    refine quiet _ (fun w H => bin_neq24 (by first | assumption | decide) (by first | assumption | decide) ⟨rfl, rfl⟩) ?_
    iterate 2 refine cond_no (bne_eq_false_iff_eq.2 (by omega)) ?_
    refine quiet _ (fun w H => H.loadAll 0 rfl agg46 size46 ⟨rfl, rfl⟩) ?_
    refine cond_no (bne_eq_false_iff_eq.2 (by omega)) ?_
    refine quiet _ (fun w H => H.loadAll 7 rfl agg46 size46 ⟨rfl, rfl⟩) ?_
    refine cond_no (bne_eq_false_iff_eq.2 (by omega)) ?_
    refine call_fn (c78 _ _ _ _ (by first | assumption | omega | decide | (repeat' (first | assumption | refine and_lt8 ?_ _ | refine xor_lt8 ?_ ?_ | refine or_lt8 ?_ ?_))) (by first | assumption | omega | decide | (repeat' (first | assumption | refine and_lt8 ?_ _ | refine xor_lt8 ?_ ?_ | refine or_lt8 ?_ ?_))) (by first | assumption | omega | decide | (repeat' (first | assumption | refine and_lt8 ?_ _ | refine xor_lt8 ?_ ?_ | refine or_lt8 ?_ ?_))) (by first | assumption | omega | decide | (repeat' (first | assumption | refine and_lt8 ?_ _ | refine xor_lt8 ?_ ?_ | refine or_lt8 ?_ ?_))) _) ?_
    rintro _ w53 ⟨rfl, hk⟩
    replace H := H.same hk
    clear hk
    refine ⟨.inl H, ?_⟩
    iterate 2 refine cond_no (bne_eq_false_iff_eq.2 (by omega)) ?_
    refine cond_no (by simp only [*, Bool.not_false, Bool.not_true]) ?_
    refine quiet _ (fun w H => H.loadAll 0 rfl agg46 size46 ⟨rfl, rfl⟩) ?_
    refine cond_no (by simp only [*, Bool.not_false, Bool.not_true]) ?_
    refine quiet _ (fun w H => H.loadAll 6 rfl agg46 size46 ⟨rfl, rfl⟩) ?_
    refine cond_no (by simp only [*, Bool.not_false, Bool.not_true]) ?_
    refine call_fn (c78 _ _ _ _ (by first | assumption | omega | decide | (repeat' (first | assumption | refine and_lt8 ?_ _ | refine xor_lt8 ?_ ?_ | refine or_lt8 ?_ ?_))) (by first | assumption | omega | decide | (repeat' (first | assumption | refine and_lt8 ?_ _ | refine xor_lt8 ?_ ?_ | refine or_lt8 ?_ ?_))) (by first | assumption | omega | decide | (repeat' (first | assumption | refine and_lt8 ?_ _ | refine xor_lt8 ?_ ?_ | refine or_lt8 ?_ ?_))) (by first | assumption | omega | decide | (repeat' (first | assumption | refine and_lt8 ?_ _ | refine xor_lt8 ?_ ?_ | refine or_lt8 ?_ ?_))) _) ?_
    rintro _ w62 ⟨rfl, hk⟩
    replace H := H.same hk
    clear hk
    refine ⟨.inl H, ?_⟩
    iterate 3 refine cond_no (by simp only [*, Bool.not_false, Bool.not_true]) ?_
    refine H.loadAll 5 rfl agg46 size46 ?_
    refine H.loadAll 7 rfl agg46 size46 ?_
    refine call_fn (c78 _ _ _ _ (by assumption) (by assumption) (by assumption) (by assumption) _) ?_
    rintro _ w69 ⟨rfl, hk⟩
    replace H := H.same hk
    clear hk
    refine cond_split (fun h70 => ?_) (fun h70 => ?_)
    · refine cond_yes (by assumption) ?_
      iterate 3 refine cond_yes (by assumption) ?_
      iterate 5 refine cond_yes rfl ?_
      refine call_fn (c59 _) ?_
      rintro _ w80 ⟨rfl, hk⟩
      replace H := H.same hk
      clear hk
      refine cond_yes rfl ?_
      exact ⟨rfl, H.keeps⟩
    · refine H.loadAll 5 rfl agg46 size46 ?_
      refine cond_no (by assumption) ?_
      refine H.loadAll 6 rfl agg46 size46 ?_
      refine cond_no (by assumption) ?_
      refine call_fn (c78 _ _ _ _ (by assumption) (by assumption) (by assumption) (by assumption) _) ?_
      rintro _ w87 ⟨rfl, hk⟩
      replace H := H.same hk
      clear hk
      iterate 2 refine cond_no (by assumption) ?_
      refine cond_split (fun h90 => ?_) (fun h90 => ?_)
      · refine cond_yes (by assumption) ?_
        iterate 2 refine cond_yes (by assumption) ?_
        refine cond_yes rfl ?_
        refine call_fn (c59 _) ?_
        rintro _ w95 ⟨rfl, hk⟩
        replace H := H.same hk
        clear hk
        refine cond_yes rfl ?_
        exact ⟨rfl, H.keeps⟩
      · refine H.loadAll 5 rfl agg46 size46 ?_
        refine cond_no (by assumption) ?_
        refine H.loadAll 0 rfl agg46 size46 ?_
        refine cond_no (by assumption) ?_
        refine call_fn (c78 _ _ _ _ (by first | assumption | omega | decide | (repeat' (first | assumption | refine and_lt8 ?_ _ | refine xor_lt8 ?_ ?_ | refine or_lt8 ?_ ?_))) (by first | assumption | omega | decide | (repeat' (first | assumption | refine and_lt8 ?_ _ | refine xor_lt8 ?_ ?_ | refine or_lt8 ?_ ?_))) (by first | assumption | omega | decide | (repeat' (first | assumption | refine and_lt8 ?_ _ | refine xor_lt8 ?_ ?_ | refine or_lt8 ?_ ?_))) (by first | assumption | omega | decide | (repeat' (first | assumption | refine and_lt8 ?_ _ | refine xor_lt8 ?_ ?_ | refine or_lt8 ?_ ?_))) _) ?_
        rintro _ w102 ⟨rfl, hk⟩
        replace H := H.same hk
        clear hk
        refine cond_no (by assumption) ?_
        refine cond_split (fun h104 => ?_) (fun h104 => ?_)
        · refine call_fn (c59 _) ?_
          rintro _ w105 ⟨rfl, hk⟩
          replace H := H.same hk
          clear hk
          refine cond_yes (by assumption) ?_
          exact ⟨rfl, H.keeps⟩
        · exact absurd (hjl (by simpa using ‹(!holdsB c s m v) = false›) (by simpa using ‹(!holdsB c s x y) = false›)) (by rw [‹holdsB c s (joinM m v x y) (v &&& joinM m v x y) = false›]; decide)
theorem law12 (m v : Nat) (hm : m < 256) (hv : v < 256) (x y : Nat) (hx : x < 256) (hy : y < 256) (c s : Nat) (hc : c < 256) (hs : s < 256) (n : Int) (w : World) : Fun Try.prog 12 [cv m v, cv x y, cv c s, .int .i64 n] w fun v w' => v = .bool true ∧ Same w w' := by
  by_cases hf : rightN m v n = false ∨ rightN x y n = false ∨ rightN c s n = false
  · exact law12_f m v x y c s hm hv hx hy hc hs n w hf
  · rw [not_or, not_or] at hf
    have h1 : rightN m v n = true := by simpa using hf.1
    have h2 : rightN x y n = true := by simpa using hf.2.1
    have h3 : rightN c s n = true := by simpa using hf.2.2
    obtain ⟨h0, h8, hml, hmv⟩ := (rightN_iff hm hv).1 h1
    obtain ⟨_, _, hxl, hxy⟩ := (rightN_iff hx hy).1 h2
    obtain ⟨k, rfl⟩ := Int.eq_ofNat_of_zero_le h0
    rw [Int.toNat_natCast] at hml hxl
    have hk8 : k ≤ 8 := by omega
    have hpts := meet_points hk8 hmv hxy
    have hcnt := popc_cubeP hk8 hml hmv
    have hhp := holds_points hk8 hml hmv hxl hxy
    have hpk := popc_leB k m hml
    cases hmt : meetB m v x y with
    | false =>
      rw [hmt, if_neg (by decide)] at hpts
      exact law12_0 m v x y c s hm hv hx hy hc hs k hk8 w h1 h2 h3 hmt hpk hpts hcnt hhp ((rightN_iff (by decide) (by decide)).2 ⟨h0, h8, by rw [Int.toNat_natCast]; exact Nat.two_pow_pos _, rfl⟩)
    | true =>
      rw [hmt, if_pos rfl] at hpts
      obtain ⟨hml2, hmv2⟩ := meet_right (m := m) (v := v) (x := x) (y := y) hml hmv hxl hxy
      have hM : meetM m x < 256 := or_lt8 hm hx
      have hV : meetV m v x y < 256 := or_lt8 (and_lt8 hv _) (and_lt8 hy _)
      exact law12_1 m v x y c s hm hv hx hy hc hs k hk8 w h1 h2 h3 hmt hpk hpts hcnt hhp hM hV ((rightN_iff hM hV).2 ⟨h0, h8, by rw [Int.toNat_natCast]; exact hml2, hmv2⟩)
end Go.Proofs.Ytjebpngdinbckaa
end

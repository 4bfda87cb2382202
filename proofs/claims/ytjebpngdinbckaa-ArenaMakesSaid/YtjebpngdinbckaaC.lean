import Derived.Test.YtjebpngdinbckaaRows
import Derived.Test.YtjebpngdinbckaaL
import Derived.WalkKit
import Derived.ProofKit
import Derived.OpenShut
import Derived.Below
import Derived.ChangeSame
import Derived.Carry
/- A law's last step, once for all laws: true, and all that was there stays as it was. -/
namespace Go.Dk
open Go.ChangeShapes Go.WideShapes Go.ChangeAt Go.RowKit

section
variable {H : Type} {enc : TypeId × Value → H} {P : Program}
theorem Keeps.below {w w' : World} (h : Same w w') : Below w.heap.size w w' :=
  ⟨h.os, h.tape, h.output, h.size, fun k hk => h.old k hk (fun h => h)⟩

theorem trodAll_stays (hl : laidOutB P = true) {W W' : World} {sp : Nat → Bool} (hb : Below W.heap.size W W') : ∀ (ts : List TypeId) (vs : List Value) (ds : List (DataW H)) (ps : List MemPlace),
    (∀ t ∈ ts, P.readableRec t = true ∧ t < P.types.size) → DataW.TrodAll enc P W 0 (fun _ => true) true ts vs ds ps → (∀ x ∈ ps, x.block < W.heap.size) → (∀ x ∈ ps, sp x.block = true) → DataW.TrodAll enc P W' 0 sp true ts vs ds ps := by
  intro ts
  induction ts with
  | nil =>
    intro vs ds ps _ h _ _
    obtain ⟨rfl, rfl, rfl⟩ := trodAll_nil h
    exact rfl
  | cons t ts ih =>
    intro vs ds ps ht h hlt hsp
    obtain ⟨v, vs, d, ds, p, q, rfl, rfl, rfl, h1, h2⟩ := trodAll_cons h
    have ht1 := ht t (.head _)
    exact ⟨p, q, WideElems.Trod_stays hl ht1.1 ht1.2 h1 (fun x hx => hb.same (hlt x (by simp [hx]))) (fun x hx => hsp x (by simp [hx])), ih _ _ _ (fun u hu => ht u (.tail _ hu)) h2 (fun x hx => hlt x (by simp [hx])) (fun x hx => hsp x (by simp [hx])), rfl⟩

/-- What a law's arguments are, at its call. -/
def ArgsOk (P : Program) (f : Func) (W : World) (args : Array Value) : Prop :=
  (∃ base : Nat, ∀ (j : Nat) t v, f.params[j]? = some t → args[j]? = some v → Value.okWide P W .any base t v) ∧
  ∃ (H : Type) (enc : TypeId × Value → H) (ds : List (DataW H)) (ps : List MemPlace), DataW.TrodAll enc P W 0 (fun _ => true) true f.params.toList args.toList ds ps

theorem lifted {C : Checked} {g : FuncId} {f : Func} {s : ChangeSpec} {apart fresh handsOn : Bool} (os : Os) (started : os.Started)
    (own : ownKnob C.prog.godebug = none) (noInit : C.prog.inits.idxOf? g = none) (hf : C.prog.funcs[g]? = some f) (hl : laidOutB C.prog = true)
    (hpar : (f.params.toList.all fun t => C.prog.readableRec t && decide (t < C.prog.types.size)) = true)
    {tb : TypeId} (hres : f.resultTypes = #[tb]) (htb : C.prog.underlying tb = some .bool)
    (hvars : s.vars = []) (hspec : ∀ ds : List (DataW H), ds.length = f.params.size → s.fn H ds = { results := [.lit (.bool true)], args := ds })
    (witness : ∃ (w : World) (tape : Tape) (i : Input), w.os = os ∧ (w.forCall tape i).Shaped C.prog ∧ i.vars = [] ∧ Input.okWide C.prog (w.forCall tape i) .any w.heap.size g i ∧
      s.pre6 enc C.prog f [] apart (w.forCall tape i).memory i.args ∧ ({} : Assume).holds C.prog (lone (Frame.enter C.prog g i.args .normal) [] (w.forCall tape i)))
    (hcall : ∀ (W : World) (args : Array Value), ArgsOk C.prog f W args → Calls C.prog g args W fun e W' => e = .returned (.bool true) ∧ Same W W') :
    ReturnsInHanded {} C os g .any (s.pre6 enc C.prog f [] apart) (s.post enc C.prog f apart fresh handsOn false) := by
  have hparams : ∀ t ∈ f.params.toList, C.prog.readableRec t = true ∧ t < C.prog.types.size := fun t ht => by
    have := List.all_eq_true.1 hpar t ht
    simpa using this
  refine returnsInHanded_of_change (C := C) own started noInit hf witness ?_
  intro W base args ds gs before hval hW _ _
  have hW' := hW
  obtain ⟨p, q, hA, hV, rfl, hfz, hnd⟩ := hW
  rw [hvars] at hV
  obtain ⟨rfl, rfl⟩ := trodVars_none hV
  have hlen : ds.length = f.params.size := by
    have : ∀ (ts : List TypeId) (vs : List Value) (ds : List (DataW H)) (ps : List MemPlace) , DataW.TrodAll enc C.prog W 0 (fun _ => true) true ts vs ds ps → ds.length = ts.length := by
      intro ts
      induction ts with
      | nil => intro vs ds ps h; obtain ⟨_, rfl, _⟩ := trodAll_nil h; rfl
      | cons t ts ih => intro vs ds ps h; obtain ⟨v, vs, d, ds, p, q, rfl, rfl, rfl, _, h2⟩ := trodAll_cons h; simp [ih _ _ _ h2]
    simpa using this _ _ _ _ hA
  have hsp : s.fn H (ds ++ []) = { results := [.lit (.bool true)], args := ds } := by rw [List.append_nil]; exact hspec ds hlen
  refine (hcall W args ⟨⟨base, hval⟩, H, enc, ds, p, hA⟩).mono fun e W' ⟨he, hk⟩ => ?_
  subst he
  have hlt : ∀ x ∈ p, x.block < W.heap.size := fun x hx => hW'.lt x (by simp [hx])
  have reads : ∀ sp : Nat → Bool, (∀ x ∈ p, sp x.block = true) → DataW.TrodAll enc C.prog W' 0 sp true f.params.toList args.toList ds p :=
    fun sp hs => trodAll_stays hl hk.below _ _ _ _ hparams hA hlt hs
  have answer : ∀ (b : Nat) (sp : Nat → Bool) (hd : Bool), DataW.TrodAll enc C.prog W' b sp hd f.resultTypes.toList ((Value.bool true).resultList f.resultTypes.size) [.lit (.bool true)] [] := fun b sp hd => by
    rw [hres]
    exact trodAll_cons_mk (p := []) (shut_bool htb _) trodAll_mk0
  have nones : ∀ sp : Nat → Bool, DataW.TrodVars enc C.prog W' sp s.vars [] [] := fun sp => by rw [hvars]; exact rfl
  have inOld : ∀ x ∈ p, decide (x.block < W.heap.size) = true := fun x hx => decide_eq_true (hlt x hx)
  refine ⟨_, rfl, ds, [], p ++ [], [], p, [], hW', ?_, ?_, ?_, ?_, fun again => by cases again⟩
  · rw [hsp]; exact answer _ _ _
  · rw [hsp]; exact reads _ inOld
  · rw [hsp]; exact nones _
  · exact World.keptBut_mono (fun x hx => ⟨hx, Or.inr (by simpa using hx)⟩) (hk.below.frame (· ∈ p ++ []))
end
/-- The closed facts that hang on the program alone. -/
def wideFacts (P : Program) (c : OpenClaim) : Bool :=
  laidOutB P && mapsRowed P && (P.stops == []) && (P.stopKnobs == []) && (c.plainKeys == P.plainKeys) && P.stopsHeard && P.mayEnter && (c.lifted == P.liftsFinal) && (P.make == some c.make)
/-- The others. -/
def rowFacts (P : Program) (f : FuncId) (fn : Func) (s : ChangeSpec) (c : OpenClaim) : Bool :=
  c.wf (OpenSpec.ofChange s) &&
  fn.params.all (P.readableRec ·) && namedTie P c.named s.vars &&
  (c.stops == []) && (c.knobs == []) &&
  (c.inPlace == P.inPlace f) && (c.unfollowed == P.unfollowed f) && (c.recurses == P.recurses f) && (c.named == P.varsNamed f) &&
  (c.maps == (fn.params.toList ++ s.plain.varTypes P).any (P.mapsRec ·)) && (c.ifaces == (fn.params.toList ++ s.plain.varTypes P).any (P.ifacesRec ·)) && (c.mapsOut == P.mapsAmong fn.resultTypes.toList) &&
  (c.loops == (fn.params.toList ++ s.plain.varTypes P).any (P.loopsFrom ·)) && (c.wideKeys == (fn.params.toList ++ s.plain.varTypes P ++ fn.resultTypes.toList).any (P.wideKeysFrom ·)) &&
  s.vars.all (P.varReadable ·) && fn.resultTypes.all (fun t => P.readableRec t && decide (t < P.types.size)) && (c.ifacesOut == fn.resultTypes.toList.any (P.ifacesRec ·)) && (c.loopsOut == fn.resultTypes.toList.any (P.loopsFrom ·)) && c.shortTexts.isNone &&
  (c.kinds == (if c.domain.isEmpty then [] else fn.params.toList.map fun t => match P.underlying t with | some (.int k) => some k | _ => none)) && (c.pinned == c.pinnedBy) &&
  (c.veiled == (fn.params.toList ++ s.plain.varTypes P ++ fn.resultTypes.toList).any (P.veiledRec ·)) && c.veiledFits P fn.params.toList (fn.params.toList ++ s.plain.varTypes P ++ fn.resultTypes.toList)
theorem joined_of {P : Program} {f : FuncId} {fn : Func} {s : ChangeSpec} {c c0 : OpenClaim} (h : wideFacts P c0 = true) (e1 : c.plainKeys = c0.plainKeys) (e2 : c.lifted = c0.lifted) (e3 : c.make = c0.make)
    (h' : rowFacts P f fn s c = true) : joinedFacts P f fn s c = true := by
  unfold wideFacts at h
  unfold rowFacts at h'
  unfold joinedFacts
  rw [e1, e2, e3]
  simp only [Bool.and_eq_true] at h h' ⊢
  have hk := h'.1.1.1.2
  simp only [h, h', and_true]
  exact ⟨trivial, hk⟩
theorem Fun.answers {P : Program} {g : FuncId} {args : List Value} {w : World} (h : Fun P g args w fun v w' => v = .bool true ∧ Same w w') :
    Calls P g args.toArray w fun e W' => e = .returned (.bool true) ∧ Same w W' := h.2.mono fun _ _ ⟨_, he, hv, hs⟩ => ⟨by rw [he, hv], hs⟩
end Go.Dk

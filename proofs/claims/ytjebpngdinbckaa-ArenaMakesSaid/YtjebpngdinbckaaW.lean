import Derived.Tactics
import Derived.Deep.Quiet
import Derived.Orders
/- A walk by unfolding: frames as functions, pure operations by evaluation. -/
namespace Go.Dk

abbrev Fr := Nat → Value
def upd (N : Nat) (f : Fr) (d : Nat) (v : Value) : Fr := fun t => bif (Nat.beq t d && Nat.blt d N) then v else f t
def puto (N : Nat) (f : Fr) (d : Option Nat) (v : Value) : Fr := match d with | some d => upd N f d v | none => f
def ev (f : Fr) : Operand → Value
  | .tmp t => f t
  | .const v => v
  | .global g => .pointer (some ⟨g, 0, none⟩)
  | .func k => .func (.func k) #[] #[]

/-- The frame of an activation. -/
structure R (N : Nat) (a : Act) (f : Fr) : Prop where
  defers : a.defers = []
  size : a.tmps.size = N
  get : ∀ t, a.tmps.getD t undef = f t

theorem R.eval {N : Nat} {a : Act} {f : Fr} (h : R N a f) : a.eval = ev f := by
  funext x; cases x <;> simp [Act.eval, ev, h.get]

theorem R.put {N : Nat} {a : Act} {f : Fr} (h : R N a f) (d : Option Nat) (v : Value) : R N (a.put d v) (puto N f d v) := by
  cases d with
  | none => exact h
  | some d =>
    refine ⟨h.defers, by simp [Act.put, h.size], fun t => ?_⟩
    have hg := h.get t
    simp only [Act.put, puto, upd]
    by_cases hd : d < N
    · have hb : Nat.blt d N = true := by simp [Nat.blt_eq, hd]
      by_cases ht : t = d
      · subst ht
        simp [Array.getD, h.size, hd, hb]
      · have : Nat.beq t d = false := by
          rw [Bool.eq_false_iff]; intro hh; exact ht (Nat.eq_of_beq_eq_true hh)
        simp only [this, Bool.false_and, cond_false, ← hg]
        by_cases hs : t < a.tmps.size
        · simp [Array.getD, hs, Ne.symm ht]
        · simp [Array.getD, hs]
    · have hb : Nat.blt d N = false := by
        rw [Bool.eq_false_iff]; intro hh; rw [Nat.blt_eq] at hh; exact hd hh
      have hst : a.tmps.setIfInBounds d v = a.tmps := by
        apply Array.setIfInBounds_eq_of_size_le; rw [h.size]; omega
      simp [hb, hst, hg]

/-- Enough of a callee to enter it. -/
def enters (P : Program) (g : FuncId) : Bool :=
  match P.funcs[g]? with
  | some fn => !(fn.name == "runtime.NumGoroutine") && fn.body.isSome
  | none => false

theorem run_callFunc {P : Program} {g : FuncId} (h : enters P g = true) (args : Array Value) (w : World) :
    (callFunc g args).run P w = .ok (.enter g args) w := by
  unfold enters at h
  cases hf : P.funcs[g]? with
  | none => simp [hf] at h
  | some fn =>
    simp [hf] at h
    have hb : fn.body.isNone = false := by
      cases hbb : fn.body <;> simp_all
    have hne : fn.body ≠ none := by intro hn; rw [hn] at hb; cases hb
    simp [callFunc, program, hf, h.1, hne, Sem.run]

/-- One result of a call. -/
def Fun (P : Program) (g : FuncId) (args : List Value) (w : World) (post : Value → World → Prop) : Prop :=
  enters P g = true ∧ Calls P g args.toArray w fun e w' => ∃ v, e = .returned v ∧ post v w'

theorem Fun.mono {P : Program} {g : FuncId} {args : List Value} {w : World} {p q : Value → World → Prop} (h : Fun P g args w p)
    (hpq : ∀ v w', p v w' → q v w') : Fun P g args w q :=
  ⟨h.1, h.2.mono fun _ _ ⟨v, he, hp⟩ => ⟨v, he, hpq _ _ hp⟩⟩

def callK (P : Program) (fv : Value) (args : List Value) (w : World) (k : Value → World → Prop) : Prop :=
  match fv with
  | .func (.func g) first cap => Fun P g (first.toList ++ args ++ cap.toList) w k
  | _ => False

/-- An operation that yields a value. -/
def semK (P : Program) (s : Sem Value) (w : World) (k : Value → World → Prop) : Prop :=
  ∃ v w', s.run P w = .ok v w' ∧ k v w'
def semU (P : Program) (s : Sem Unit) (w : World) (k : Value → World → Prop) : Prop :=
  ∃ w', s.run P w = .ok () w' ∧ k undef w'

def allocK (P : Program) (t : TypeId) (w : World) (k : Value → World → Prop) : Prop := semK P (Instr.alloc t true (.tuple #[])) w k
def boxK (P : Program) (t : TypeId) (v : Value) (w : World) (k : Value → World → Prop) : Prop := semK P (Instr.box t v) w k
def buildK (P : Program) (t : TypeId) (parts : List (Nat × Value)) (w : World) (k : Value → World → Prop) : Prop := semK P (Instr.build t parts.toArray) w k
def buildSliceK (P : Program) (t : TypeId) (n : Nat) (parts : List (Nat × Value)) (w : World) (k : Value → World → Prop) : Prop := semK P (Instr.buildSlice t n parts.toArray) w k
def loadK (P : Program) (t : TypeId) (a : Value) (w : World) (k : Value → World → Prop) : Prop := semK P (Instr.loadAt t a) w k
def storeK (P : Program) (t : TypeId) (a v : Value) (w : World) (k : Value → World → Prop) : Prop := semU P (Instr.storeAt t a v) w k
def nilK (P : Program) (ρ : Operand → Value) (x : Operand) (w : World) (k : Value → World → Prop) : Prop := ∃ v, (∀ dst ty pos after guard, (execOp ρ { dst, op := .nilCheck x, type := ty, pos, after, guard }).run P w = .ok (.value v) w) ∧ k v w
def binK (P : Program) (op : BinOp) (t : TypeId) (xo yo : Operand) (x y : Value) (w : World) (k : Value → World → Prop) : Prop := semK P (do eqGuard op t xo yo x y; binOp op t x y) w k
def unK (P : Program) (op : UnOp) (x : Value) (w : World) (k : Value → World → Prop) : Prop := semK P (Op.unary op x) w k
def convK (P : Program) (s d : TypeId) (x : Value) (w : World) (k : Value → World → Prop) : Prop := semK P (convert s d x) w k
def makeMapK (P : Program) (t : TypeId) (r : Option Value) (w : World) (k : Value → World → Prop) : Prop := semK P (Instr.makeMap t r) w k
def makeSliceK (P : Program) (t : TypeId) (l c : Value) (w : World) (k : Value → World → Prop) : Prop := semK P (Instr.makeSlice t l c) w k
def makeFuncK (P : Program) (fn : Fn) (first cap : List Value) (w : World) (k : Value → World → Prop) : Prop := semK P (Instr.makeFunc fn first.toArray cap.toArray) w k
def sliceK (P : Program) (t : TypeId) (x : Value) (lo hi mx : Option Value) (w : World) (k : Value → World → Prop) : Prop := semK P (Instr.sliceAt t x lo hi mx) w k
def fieldAddrK (P : Program) (t : TypeId) (x : Value) (i : Nat) (w : World) (k : Value → World → Prop) : Prop := semK P (Instr.fieldAt t x i) w k
def fieldK (P : Program) (t : TypeId) (x : Value) (i : Nat) (w : World) (k : Value → World → Prop) : Prop := semK P (Instr.field t x i) w k
def idxAddrK (P : Program) (t : TypeId) (x i : Value) (w : World) (k : Value → World → Prop) : Prop := semK P (Instr.indexAt t x i) w k
def idxK (P : Program) (t : TypeId) (x i : Value) (w : World) (k : Value → World → Prop) : Prop := semK P (Instr.index t x i) w k
def lookupK (P : Program) (t : TypeId) (m i : Value) (ok : Bool) (w : World) (k : Value → World → Prop) : Prop := semK P (Instr.lookup t m i ok) w k
def mapSetK (P : Program) (t : TypeId) (m i x : Value) (w : World) (k : Value → World → Prop) : Prop := semU P (Instr.mapUpdate t m i x) w k
def mapEntryK (P : Program) (t : TypeId) (m i : Value) (w : World) (k : Value → World → Prop) : Prop := semK P (Instr.mapEntry t m i) w k
def entryStoreK (P : Program) (t : TypeId) (m i x : Value) (w : World) (k : Value → World → Prop) : Prop := semU P (Instr.entryStore t m i x) w k
def rangeK (P : Program) (t : TypeId) (x : Value) (w : World) (k : Value → World → Prop) : Prop := semK P (Instr.range t x) w k
def nextK (P : Program) (it : Value) (s : Bool) (t : TypeId) (w : World) (k : Value → World → Prop) : Prop := semK P (Instr.next it s t) w k
def entryK (P : Program) (it : Value) (w : World) (k : Value → World → Prop) : Prop := semK P (Instr.entry it) w k
def builtinK (P : Program) (b : Builtin) (ats : Array TypeId) (t : TypeId) (consts : Array Bool) (args : List Value) (w : World) (k : Value → World → Prop) : Prop :=
  ∃ v w', (builtin b ats t consts args.toArray).run P w = .ok (.value v) w' ∧ k v w'
/-- A condition; a thing of its own, so that the kernel does not unfold it on the wrong side. -/
inductive condB (b : Bool) (p q : Prop) : Prop
  | yes (hb : b = true) (hp : p) : condB b p q
  | no (hb : b = false) (hq : q) : condB b p q
theorem condB_eq (b : Bool) (p q : Prop) : condB b p q = if b then p else q := by
  apply propext
  constructor
  · intro h
    cases h with
    | yes hb hp => rw [hb]; exact hp
    | no hb hq => rw [hb]; exact hq
  · intro h
    cases b
    · exact .no rfl h
    · exact .yes rfl h

/-- Operations on numbers and Bools. -/
def intV (op : BinOp) (k : IntKind) (a b : Int) : Option Value :=
  match op with
  | .add => some (.int k (k.wrap (a + b)))
  | .sub => some (.int k (k.wrap (a - b)))
  | .mul => some (.int k (k.wrap (a * b)))
  | .eql => some (.bool (a == b))
  | .neq => some (.bool (a != b))
  | .lss => some (.bool (a < b))
  | .leq => some (.bool (a ≤ b))
  | .gtr => some (.bool (a > b))
  | .geq => some (.bool (a ≥ b))
  | _ => none
def sameKind : IntKind → IntKind → Bool
  | .i64, .i64 | .u64, .u64 | .u8, .u8 | .i32, .i32 | .u32, .u32 | .i8, .i8 | .i16, .i16 | .u16, .u16 => true
  | _, _ => false
theorem sameKind_eq {a b : IntKind} (h : sameKind a b = true) : a = b := by cases a <;> cases b <;> first | rfl | cases h
def binV (op : BinOp) (x y : Value) : Option Value :=
  match x, y with
  | .int k a, .int k' b => bif sameKind k k' then intV op k a b else none
  | _, _ => none

/-- A value's head is reckoned before it is written. -/
def force (v : Value) (k : Value → Prop) : Prop :=
  match v with
  | .bool b => k (.bool b)
  | .int i n => k (.int i n)
  | .float i n => k (.float i n)
  | .complex i n m => k (.complex i n m)
  | .string s => k (.string s)
  | .pointer a => k (.pointer a)
  | .slice a n c => k (.slice a n c)
  | .map r => k (.map r)
  | .chan r => k (.chan r)
  | .func fn a c => k (.func fn a c)
  | .nilFunc => k .nilFunc
  | .iface t v => k (.iface t v)
  | .nilIface => k .nilIface
  | .agg cs => k (.agg cs)
  | .tuple vs => k (.tuple vs)
theorem force_eq (v : Value) (k : Value → Prop) : force v k = k v := by cases v <;> rfl

def forceL (f : Fr) : List Operand → (List Value → Prop) → Prop
  | [], k => k []
  | x :: xs, k => force (ev f x) fun v => forceL f xs fun vs => k (v :: vs)
theorem forceL_eq (f : Fr) : ∀ (xs : List Operand) (k : List Value → Prop), forceL f xs k = k (xs.map (ev f))
  | [], _ => rfl
  | x :: xs, k => by simp only [forceL, force_eq, forceL_eq f xs, List.map_cons]
def forceP (f : Fr) : List (Nat × Operand) → (List (Nat × Value) → Prop) → Prop
  | [], k => k []
  | (i, x) :: xs, k => force (ev f x) fun v => forceP f xs fun vs => k ((i, v) :: vs)
theorem forceP_eq (f : Fr) : ∀ (xs : List (Nat × Operand)) (k : List (Nat × Value) → Prop), forceP f xs k = k (xs.map fun p => (p.1, ev f p.2))
  | [], _ => rfl
  | (i, x) :: xs, k => by simp only [forceP, force_eq, forceP_eq f xs, List.map_cons]
def forceO (f : Fr) : Option Operand → (Option Value → Prop) → Prop
  | none, k => k none
  | some x, k => force (ev f x) fun v => k (some v)
theorem forceO_eq (f : Fr) : ∀ (x : Option Operand) (k : Option Value → Prop), forceO f x k = k (x.map (ev f))
  | none, _ => rfl
  | some x, k => by simp only [forceO, force_eq, Option.map_some]

def opV (P : Program) (op : Op) (ty : TypeId) (f : Fr) (w : World) (k : Value → World → Prop) : Prop :=
  match op with
  | .move x | .assign x => force (ev f x) fun v => k v w
  | .alloc t => allocK P t w k
  | .box t x => force (ev f x) fun x => boxK P t x w k
  | .build t ps => forceP f ps.toList fun ps => buildK P t ps w k
  | .buildSlice t n ps => forceP f ps.toList fun ps => buildSliceK P t n ps w k
  | .pick c a b =>
    match ev f c with
    | .bool t => condB t (force (ev f a) fun v => k v w) (force (ev f b) fun v => k v w)
    | _ => False
  | .load t a => force (ev f a) fun a => loadK P t a w k
  | .store t a x => force (ev f a) fun a => force (ev f x) fun x => storeK P t a x w k
  | .nilCheck x =>
    match ev f x with
    | .pointer (some a) => k (.pointer (some a)) w
    | _ => nilK P (ev f) x w k
  | .binOp op t x y _ =>
    match binV op (ev f x) (ev f y) with
    | some v => k v w
    | none => force (ev f x) fun a => force (ev f y) fun b => binK P op t x y a b w k
  | .unOp op _ x =>
    match op, ev f x with
    | .not, .bool b => k (.bool !b) w
    | _, _ => unK P op (ev f x) w k
  | .convert s d x => force (ev f x) fun x => convK P s d x w k
  | .makeMap t r => forceO f r fun r => makeMapK P t r w k
  | .makeSlice t l c => force (ev f l) fun l => force (ev f c) fun c => makeSliceK P t l c w k
  | .makeFunc fn a c => forceL f a.toList fun a => forceL f c.toList fun c => makeFuncK P fn a c w k
  | .slice t x lo hi mx => force (ev f x) fun x => forceO f lo fun lo => forceO f hi fun hi => forceO f mx fun mx => sliceK P t x lo hi mx w k
  | .fieldAddr t x i => force (ev f x) fun x => fieldAddrK P t x i w k
  | .field t x i => force (ev f x) fun x => fieldK P t x i w k
  | .indexAddr t x i => force (ev f x) fun x => force (ev f i) fun i => idxAddrK P t x i w k
  | .index t x i => force (ev f x) fun x => force (ev f i) fun i => idxK P t x i w k
  | .lookup t x i ok => force (ev f x) fun x => force (ev f i) fun i => lookupK P t x i ok w k
  | .mapUpdate t m i x | .insert t m i x => force (ev f m) fun m => force (ev f i) fun i => force (ev f x) fun x => mapSetK P t m i x w k
  | .mapEntry t m i => force (ev f m) fun m => force (ev f i) fun i => mapEntryK P t m i w k
  | .entryStore t m i x => force (ev f m) fun m => force (ev f i) fun i => force (ev f x) fun x => entryStoreK P t m i x w k
  | .range t x => force (ev f x) fun x => rangeK P t x w k
  | .next x s => force (ev f x) fun x => nextK P x s ty w k
  | .entry x => force (ev f x) fun x => entryK P x w k
  | .extract x i =>
    match ev f x with
    | .tuple ⟨vs⟩ => match vs[i]? with | some v => force v fun v => k v w | none => False
    | _ => False
  | .call c =>
    match c.callee with
    | .value fv => force (ev f fv) fun fv => forceL f c.args.toList fun args => callK P fv args w k
    | .builtin b => forceL f c.args.toList fun args => builtinK P b c.argTypes ty (c.args.map fun | .const _ => true | _ => false) args w k
    | _ => False
  | _ => False
def operK (P : Program) (N : Nat) (dst : Option Tmp) (op : Op) (ty : TypeId) (f : Fr) (w : World) (k : Fr → World → Prop) : Prop :=
  opV P op ty f w fun v w' => k (puto N f dst v) w'

theorem intV_run {P : Program} {op : BinOp} {k : IntKind} {a b : Int} {v : Value} (h : intV op k a b = some v) (t : TypeId) (w : World) :
    (binOp op t (.int k a) (.int k b)).run P w = .ok v w := by
  cases op <;> simp [intV] at h <;> subst h <;> simp [binOp, Op.intArith, Op.intCmp, pure]
theorem eqGuard_int (op : BinOp) (t : TypeId) (x y : Operand) (k : IntKind) (n : Int) (v : Value) : eqGuard op t x y (.int k n) v = pure () := by cases op <;> rfl

/-- What an operation yields, said without exits. -/
def runsTo (P : Program) (o : Oper) (ρ : Operand → Value) (w : World) (k : Value → World → Prop) : Prop :=
  match (execOp ρ o).run P w with
  | .ok (.value v) w' => k v w'
  | .ok .skip w' => k undef w'
  | .ok (.enter f args) w' => Calls P f args w' fun e w'' => ∃ v, e = .returned v ∧ k v w''
  | _ => False

theorem runsTo.wp {P : Program} {o : Oper} {a : Act} {w : World} {k : Value → World → Prop} {K : Act → World → Prop} {Q : Exit → Act → World → Prop}
    (h : runsTo P o a.eval w k) (hk : ∀ v w', k v w' → K (a.put o.dst v) w') : o.wp P a w K Q := by
  unfold runsTo at h
  unfold Oper.wp
  split at h
  · rename_i v w' hr; rw [hr]; exact hk _ _ h
  · rename_i w' hr; rw [hr]; exact hk _ _ h
  · rename_i g args w' hr
    rw [hr]
    show Calls _ _ _ _ _
    refine h.mono fun e w'' ⟨v, he, hv⟩ => ?_
    subst he
    exact hk _ _ hv
  · exact h.elim
theorem runsTo.mono {P : Program} {o : Oper} {ρ : Operand → Value} {w : World} {k k' : Value → World → Prop} (h : runsTo P o ρ w k) (hk : ∀ v w', k v w' → k' v w') : runsTo P o ρ w k' := by
  unfold runsTo at *
  split at h
  · exact hk _ _ h
  · exact hk _ _ h
  · exact h.mono fun e w'' ⟨v, he, hv⟩ => ⟨v, he, hk _ _ hv⟩
  · exact h.elim
theorem runsTo.some {P : Program} {o : Oper} {ρ : Operand → Value} {w : World} {k : Value → World → Prop} (h : runsTo P o ρ w k) : ∃ v w', k v w' := by
  unfold runsTo at h
  split at h
  · exact ⟨_, _, h⟩
  · exact ⟨_, _, h⟩
  · obtain ⟨e, w', fr, ⟨v, _, hv⟩, _⟩ := h []; exact ⟨v, w', hv⟩
  · exact h.elim
theorem runsTo_value {P : Program} {o : Oper} {ρ : Operand → Value} {w w' : World} {v : Value} {k : Value → World → Prop} (hr : (execOp ρ o).run P w = .ok (.value v) w') (h : k v w') : runsTo P o ρ w k := by
  unfold runsTo; rw [hr]; exact h

theorem opV_sound {P : Program} (o : Oper) {f : Fr} {w : World} {k : Value → World → Prop} (h : opV P o.op o.type f w k) : runsTo P o (ev f) w k := by
  obtain ⟨dst, op, ty, pos, after, guard⟩ := o
  cases op <;> simp only [opV, force_eq, forceL_eq, forceP_eq, forceO_eq] at h
  case move x => exact runsTo_value rfl h
  case assign x => exact runsTo_value rfl h
  case alloc t => obtain ⟨v, w', hr, h⟩ := h; simpa [runsTo, execOp, hr] using h
  case box t x => obtain ⟨v, w', hr, h⟩ := h; simpa [runsTo, execOp, hr] using h
  case build t ps =>
    obtain ⟨v, w', hr, h⟩ := h
    have e : (List.map (fun p => (p.1, ev f p.2)) ps.toList).toArray = ps.map fun (i, x) => (i, ev f x) := by
      rw [← Array.toList_inj]; simp
    rw [e] at hr
    simpa [runsTo, execOp, hr] using h
  case buildSlice t n ps =>
    obtain ⟨v, w', hr, h⟩ := h
    have e : (List.map (fun p => (p.1, ev f p.2)) ps.toList).toArray = ps.map fun (i, x) => (i, ev f x) := by
      rw [← Array.toList_inj]; simp
    rw [e] at hr
    simpa [runsTo, execOp, hr] using h
  case pick c a b =>
    split at h
    · rename_i t hx
      rw [condB_eq] at h
      cases t
      · exact runsTo_value (v := ev f b) (w' := w) (by simp [execOp, hx, asBool]) (by simpa using h)
      · exact runsTo_value (v := ev f a) (w' := w) (by simp [execOp, hx, asBool]) (by simpa using h)
    · exact h.elim
  case load t x => obtain ⟨v, w', hr, h⟩ := h; simpa [runsTo, execOp, hr] using h
  case store t x y => obtain ⟨w', hr, h⟩ := h; simpa [runsTo, execOp, hr] using h
  case nilCheck x =>
    split at h
    · rename_i ad hx; exact runsTo_value (by simp [execOp, hx]) h
    · obtain ⟨v, hr, h⟩ := h; exact runsTo_value (hr ..) h
  case binOp op t x y u =>
    split at h
    · rename_i v hv
      unfold binV at hv
      split at hv
      · rename_i k1 n1 k2 n2 hx hy
        cases hs : sameKind k1 k2 with
        | false => simp [hs] at hv
        | true =>
          obtain rfl := sameKind_eq hs
          simp [hs] at hv
          exact runsTo_value (by simp [execOp, hx, hy, eqGuard_int, intV_run hv]) h
      · cases hv
    · obtain ⟨v, w', hr, h⟩ := h
      have : (execOp (ev f) { dst, op := .binOp op t x y u, type := ty, pos, after, guard }).run P w = .ok (.value v) w' := by
        simp only [execOp]
        rw [Sem.run_bind, hr]
        rfl
      exact runsTo_value this h
  case unOp op t x =>
    split at h
    · rename_i b hx; exact runsTo_value (by simp [execOp, hx, Op.unary]) h
    · obtain ⟨v, w', hr, h⟩ := h; simpa [runsTo, execOp, hr] using h
  case convert s d x => obtain ⟨v, w', hr, h⟩ := h; simpa [runsTo, execOp, hr] using h
  case makeMap t r => obtain ⟨v, w', hr, h⟩ := h; simpa [runsTo, execOp, hr] using h
  case makeSlice t l c => obtain ⟨v, w', hr, h⟩ := h; simpa [runsTo, execOp, hr] using h
  case makeFunc fn as cs =>
    obtain ⟨v, w', hr, h⟩ := h
    have e1 : (List.map (ev f) as.toList).toArray = as.map (ev f) := by rw [← Array.toList_inj]; simp
    have e2 : (List.map (ev f) cs.toList).toArray = cs.map (ev f) := by rw [← Array.toList_inj]; simp
    rw [e1, e2] at hr
    simpa [runsTo, execOp, hr] using h
  case slice t x lo hi mx => obtain ⟨v, w', hr, h⟩ := h; simpa [runsTo, execOp, hr] using h
  case fieldAddr t x i => obtain ⟨v, w', hr, h⟩ := h; simpa [runsTo, execOp, hr] using h
  case field t x i => obtain ⟨v, w', hr, h⟩ := h; simpa [runsTo, execOp, hr] using h
  case indexAddr t x i => obtain ⟨v, w', hr, h⟩ := h; simpa [runsTo, execOp, hr] using h
  case index t x i => obtain ⟨v, w', hr, h⟩ := h; simpa [runsTo, execOp, hr] using h
  case lookup t x i ok => obtain ⟨v, w', hr, h⟩ := h; simpa [runsTo, execOp, hr] using h
  case mapUpdate t m i x => obtain ⟨w', hr, h⟩ := h; simpa [runsTo, execOp, hr] using h
  case insert t m i x => obtain ⟨w', hr, h⟩ := h; simpa [runsTo, execOp, hr] using h
  case mapEntry t m i => obtain ⟨v, w', hr, h⟩ := h; simpa [runsTo, execOp, hr] using h
  case entryStore t m i x => obtain ⟨w', hr, h⟩ := h; simpa [runsTo, execOp, hr] using h
  case range t x => obtain ⟨v, w', hr, h⟩ := h; simpa [runsTo, execOp, hr] using h
  case next x s => obtain ⟨v, w', hr, h⟩ := h; simpa [runsTo, execOp, hr] using h
  case entry x => obtain ⟨v, w', hr, h⟩ := h; simpa [runsTo, execOp, hr] using h
  case extract x i =>
    split at h
    · rename_i vs hx
      split at h
      · rename_i v hv
        have hv' : vs[i]? = some v := hv
        exact runsTo_value (by simp [execOp, Instr.extract, hx, hv']) h
      · exact h.elim
    · exact h.elim
  case call c =>
    obtain ⟨callee, args, ats⟩ := c
    cases callee with
    | value fv =>
      simp only [] at h
      unfold callK at h
      split at h
      · rename_i g first cap hfv
        have e1 : ((first.toList ++ List.map (ev f) args.toList ++ cap.toList)).toArray = first ++ args.map (ev f) ++ cap := by
          rw [← Array.toList_inj]; simp
        obtain ⟨hent, hc⟩ := h
        rw [e1] at hc
        have hrun : (execOp (ev f) { dst, op := .call { callee := .value fv, args, argTypes := ats }, type := ty, pos, after, guard }).run P w = .ok (.enter g (first ++ args.map (ev f) ++ cap)) w := by
          simp [execOp, resolve, Deferred.ofValue, hfv, invoke, run_callFunc hent]
        unfold runsTo
        rw [hrun]
        exact hc
      · exact h.elim
    | builtin b =>
      obtain ⟨v, w', hr, h⟩ := h
      have e1 : (List.map (ev f) args.toList).toArray = args.map (ev f) := by rw [← Array.toList_inj]; simp
      rw [e1] at hr
      have hrun : (execOp (ev f) { dst, op := .call { callee := .builtin b, args, argTypes := ats }, type := ty, pos, after, guard }).run P w = .ok (.value v) w' := by
        simp only [execOp, resolve, invoke]
        exact hr
      exact runsTo_value hrun h
    | invoke r m => exact h.elim

theorem operK_sound {P : Program} {N : Nat} {o : Oper} {f : Fr} {w : World} {k : Fr → World → Prop} {a : Act} {K : Act → World → Prop} {Q : Exit → Act → World → Prop}
    (hR : R N a f) (hk : ∀ a' f' w', R N a' f' → k f' w' → K a' w') (h : operK P N o.dst o.op o.type f w k) : o.wp P a w K Q := by
  have h' := opV_sound o h
  rw [← hR.eval] at h'
  exact h'.wp fun v w' hv => hk _ _ _ (hR.put _ _) hv

theorem semK_mono {P : Program} {s : Sem Value} {w : World} {k k' : Value → World → Prop} (hk : ∀ v w', k v w' → k' v w') (h : semK P s w k) : semK P s w k' :=
  let ⟨v, w', hr, hh⟩ := h; ⟨v, w', hr, hk _ _ hh⟩
theorem semU_mono {P : Program} {s : Sem Unit} {w : World} {k k' : Value → World → Prop} (hk : ∀ v w', k v w' → k' v w') (h : semU P s w k) : semU P s w k' :=
  let ⟨w', hr, hh⟩ := h; ⟨w', hr, hk _ _ hh⟩
theorem opV_mono {P : Program} {op : Op} {ty : TypeId} {f : Fr} {w : World} {k k' : Value → World → Prop} (hk : ∀ v w', k v w' → k' v w') (h : opV P op ty f w k) : opV P op ty f w k' := by
  cases op <;> simp only [opV, force_eq, forceL_eq, forceP_eq, forceO_eq] at h ⊢
  case move x => exact hk _ _ h
  case assign x => exact hk _ _ h
  case pick c a b =>
    split
    · rename_i t hc
      simp only [hc] at h
      rw [condB_eq] at h ⊢
      cases t
      · exact hk _ _ h
      · exact hk _ _ h
    · rename_i hc
      split at h
      · rename_i t ht; exact absurd ht (hc t)
      · exact h
  case nilCheck x =>
    split
    · rename_i a hx; simp only [hx] at h; exact hk _ _ h
    · rename_i hx
      split at h
      · rename_i a ha; exact absurd ha (hx a)
      · obtain ⟨v, h1, h2⟩ := h; exact ⟨v, h1, hk _ _ h2⟩
  case binOp op t x y u =>
    split
    · rename_i v hv; simp only [hv] at h; exact hk _ _ h
    · rename_i hv; simp only [hv] at h; exact semK_mono hk h
  case unOp op t x =>
    split
    · rename_i b hb; simp only [hb] at h; exact hk _ _ h
    · rename_i hb
      split at h
      · rename_i b hb'; exact (hb b rfl hb').elim
      · exact semK_mono hk h
  case extract x i =>
    split
    · rename_i vs hx
      simp only [hx] at h
      split
      · rename_i v hv; simp only [hv] at h; exact hk _ _ h
      · rename_i hv; simp only [hv] at h
    · rename_i hx
      split at h
      · rename_i vs hvs; exact absurd hvs (hx vs)
      · exact h
  case call c =>
    split
    · rename_i fv hc
      simp only [hc] at h
      unfold callK at h ⊢
      split
      · rename_i g a b hg; simp only [hg] at h; exact h.mono hk
      · rename_i hg
        split at h
        · rename_i g a b hg'; exact absurd hg' (hg g a b)
        · exact h
    · rename_i b hc
      simp only [hc] at h
      obtain ⟨v, w', hr, hh⟩ := h
      exact ⟨v, w', hr, hk _ _ hh⟩
    · rename_i h1 h2
      split at h
      · rename_i fv hfv; exact absurd hfv (h1 fv)
      · rename_i b hb; exact absurd hb (h2 b)
      · exact h
  case store t a x => exact semU_mono hk h
  case mapUpdate t m i x => exact semU_mono hk h
  case insert t m i x => exact semU_mono hk h
  case entryStore t m i x => exact semU_mono hk h
  all_goals first | exact semK_mono hk h | exact h

attribute [irreducible] allocK boxK buildK buildSliceK loadK storeK nilK binK unK convK makeMapK makeSliceK makeFuncK sliceK fieldAddrK fieldK idxAddrK idxK
  lookupK mapSetK mapEntryK entryStoreK rangeK nextK entryK builtinK callK

/-- The operations of a region in the text's order. -/
def opsK (P : Program) (N : Nat) (ops : Array Oper) (k : Fr → World → Prop) : List Oper → Fr → World → Prop
  | [], f, w => k f w
  | ⟨dst, op, ty, _, _, none⟩ :: rest, f, w => operK P N dst op ty f w (opsK P N ops k rest)
  | ⟨dst, op, ty, _, _, some (j, want)⟩ :: rest, f, w =>
      match (ops[j]?).bind (·.dst) with
      | some d =>
        match f d with
        | .bool b => match want with
          | true => condB b (operK P N dst op ty f w (opsK P N ops k rest)) (opsK P N ops k rest (puto N f dst undef) w)
          | false => condB b (opsK P N ops k rest (puto N f dst undef) w) (operK P N dst op ty f w (opsK P N ops k rest))
        | _ => opsK P N ops k rest (puto N f dst undef) w
      | none => opsK P N ops k rest (puto N f dst undef) w

/-- Does an operation change the world, or call? -/
def loud : Op → Bool
  | .move _ | .assign _ | .pick .. | .load .. | .nilCheck _ | .binOp .. | .unOp .. | .convert .. | .slice .. | .fieldAddr .. | .field .. | .indexAddr .. | .index ..
  | .lookup .. | .extract .. | .build .. | .makeFunc .. => false
  | .call { callee := .builtin .len, .. } | .call { callee := .builtin .cap, .. } | .call { callee := .builtin .min, .. } | .call { callee := .builtin .max, .. } => false
  | _ => true

/-- All that the mixed walk asks of a region's text. -/
def directB (ops : Array Oper) : Bool :=
  (List.range ops.size).all fun j => match ops[j]? with
    | some o => o.after.all fun e => !Region.binds .any e || decide (e.on < j)
    | none => true
/-- What each operation waits for, directly or through others: a number's bits. -/
def closRow (after : List Edge) (acc : Array Nat) : Nat := after.foldl (fun s e => bif Region.binds .any e then s ||| 2 ^ e.on ||| acc.getD e.on 0 else s) 0
def closL : List Oper → Array Nat → Array Nat
  | [], acc => acc
  | o :: l, acc => closL l (acc.push (closRow o.after.toList acc))
def waitsC (c : Array Nat) (j i : Nat) : Bool := (c.getD j 0).testBit i
def pairC (ops : Array Oper) (c : Array Nat) (i j : Nat) : Bool :=
  match ops[i]?, ops[j]? with
  | some x, some y => (x.apart ops y && !(loud x.op && loud y.op)) || waitsC c j i
  | _, _ => true
def mixB (ops : Array Oper) : Bool :=
  directB ops && (List.range ops.size).all fun j => (List.range j).all fun i => pairC ops (closL ops.toList #[]) i j
/-- Does an operation wait for all that is quiet? -/
def tailB (ops : Array Oper) (i : Nat) : Bool :=
  (List.range ops.size).all fun j => j == i || (match ops[j]? with | some o => loud o.op | none => true) || waitsC (closL ops.toList #[]) i j

def Closed (ops : Array Oper) (D : Nat → Prop) : Prop := ∀ j, D j → ∀ o, ops[j]? = some o → ∀ e ∈ o.after, Region.binds .any e = true → D e.on
theorem closRow_spec {acc : Array Nat} {i : Nat} : ∀ (after : List Edge) (s : Nat), (after.foldl (fun s e => bif Region.binds .any e then s ||| 2 ^ e.on ||| acc.getD e.on 0 else s) s).testBit i = true →
    s.testBit i = true ∨ ∃ e ∈ after, Region.binds .any e = true ∧ (e.on = i ∨ (acc.getD e.on 0).testBit i = true) := by
  intro after
  induction after with
  | nil => intro s h; exact .inl h
  | cons e l ih =>
    intro s h
    simp only [List.foldl_cons] at h
    rcases ih _ h with h | ⟨e', he', h⟩
    · cases hb : Region.binds .any e with
      | false => rw [hb] at h; exact .inl h
      | true =>
        rw [hb] at h
        simp only [cond_true, Nat.testBit_or, Bool.or_eq_true, Nat.testBit_two_pow, decide_eq_true_eq] at h
        rcases h with (h | h) | h
        · exact .inl h
        · exact .inr ⟨e, .head _, hb, .inl h⟩
        · exact .inr ⟨e, .head _, hb, .inr h⟩
    · exact .inr ⟨e', .tail _ he', h⟩
theorem closL_spec {ops : Array Oper} {D : Nat → Prop} (hD : Closed ops D) : ∀ (l : List Oper) (acc : Array Nat), (∀ k, l[k]? = ops[acc.size + k]?) →
    (∀ j i, D j → waitsC acc j i = true → D i) → ∀ j i, D j → waitsC (closL l acc) j i = true → D i := by
  intro l
  induction l with
  | nil => intro acc _ h; exact h
  | cons o l ih =>
    intro acc hl h
    refine ih _ (fun k => by have := hl (k + 1); simpa [Nat.add_assoc, Nat.add_comm 1 k] using this) ?_
    intro j i hj hw
    by_cases hjs : j < acc.size
    · refine h j i hj ?_
      unfold waitsC at hw ⊢
      simpa [Array.getD, hjs, Nat.lt_succ_of_lt hjs, Array.getElem_push_lt hjs] using hw
    · by_cases hje : j = acc.size
      · subst hje
        have ho : ops[acc.size]? = some o := by have := hl 0; simpa using this.symm
        unfold waitsC at hw
        simp [Array.getD] at hw
        rcases closRow_spec _ _ hw with h0 | ⟨e, he, hb, h1⟩
        · simp at h0
        · have hde := hD _ hj o ho e (by simpa using he) hb
          rcases h1 with h1 | h1
          · exact h1 ▸ hde
          · exact h _ _ hde h1
      · unfold waitsC at hw
        have : ¬ j < acc.size + 1 := by omega
        simp [Array.getD, this] at hw
theorem waitsC_step {ops : Array Oper} {D : Nat → Prop} (hD : Closed ops D) (j i : Nat) (hj : D j) (hw : waitsC (closL ops.toList #[]) j i = true) : D i :=
  closL_spec hD ops.toList #[] (fun k => by simp) (fun j i _ h => by simp [waitsC] at h) j i hj hw

/-- A quiet operation yields one value in all worlds of a class. -/
def quietE (P : Program) (C : World → Prop) (o : Oper) (a : Act) (v : Value) : Prop := ∀ w, C w → (execOp a.eval o).run P w = .ok (.value v) w

/-- The mixed walk, over operations that are still to come, in the text's order. -/
def wpMix (P : Program) (ops : Array Oper) (C : World → Prop) (Q : Act → World → Prop) : List Nat → Act → World → Prop
  | [], a, w => Q a w
  | i :: rest, a, w =>
    match ops[i]? with
    | none => wpMix P ops C Q rest a w
    | some o =>
      if Region.wanted o (yielded ops a.tmps) then
        (if loud o.op then runsTo P o a.eval w fun v w' => (C w' ∨ tailB ops i = true) ∧ wpMix P ops C Q rest (a.put o.dst v) w'
         else ∃ v, quietE P C o a v ∧ wpMix P ops C Q rest (a.put o.dst v) w)
      else wpMix P ops C Q rest (a.put o.dst undef) w

/-- One operation taken. -/
def stepMix (P : Program) (ops : Array Oper) (C : World → Prop) (i : Nat) (K : Act → World → Prop) (a : Act) (w : World) : Prop :=
  match ops[i]? with
  | none => K a w
  | some o =>
    if Region.wanted o (yielded ops a.tmps) then
      (if loud o.op then runsTo P o a.eval w fun v w' => (C w' ∨ tailB ops i = true) ∧ K (a.put o.dst v) w'
       else ∃ v, quietE P C o a v ∧ K (a.put o.dst v) w)
    else K (a.put o.dst undef) w

section mix
variable {P : Program} {ops : Array Oper} {C : World → Prop}

theorem runsTo_same {o : Oper} {ρ ρ' : Operand → Value} {w : World} {k : Value → World → Prop} (he : execOp ρ' o = execOp ρ o) : runsTo P o ρ' w k = runsTo P o ρ w k := by
  unfold runsTo; rw [he]

theorem pull {Q : Act → World → Prop} {i : Nat} {oi : Oper} (hi : ops[i]? = some oi) (hns : Region.noSelect ops = true) (post : List Nat) : ∀ (pre : List Nat) (a : Act) (w : World), (C w ∨ ∀ k ∈ pre ++ i :: post, ∀ o, ops[k]? = some o → loud o.op = true) →
    (∀ k ∈ pre, ∀ ok, ops[k]? = some ok → ok.apart ops oi = true ∧ (loud ok.op && loud oi.op) = false ∧ (loud oi.op = false → tailB ops k = false)) →
    wpMix P ops C Q (pre ++ i :: post) a w → stepMix P ops C i (wpMix P ops C Q (pre ++ post)) a w := by
  have hsel := Region.noSelect_spec hns
  intro pre
  induction pre with
  | nil => intro a w _ _ h; exact h
  | cons k pre ih =>
    intro a w hC hp h
    have ih' := fun a w hC h => ih a w hC (fun k hk => hp k (.tail _ hk)) h
    have hC' : C w ∨ ∀ k ∈ pre ++ i :: post, ∀ o, ops[k]? = some o → loud o.op = true := hC.imp id fun hh k hk => hh k (.tail _ hk)
    simp only [List.cons_append, wpMix] at h
    cases hk : ops[k]? with
    | none =>
      simp only [hk] at h
      have := ih' a w hC' h
      unfold stepMix at this ⊢
      simp only [hi] at this ⊢
      simpa only [List.cons_append, wpMix, hk] using this
    | some ok =>
      simp only [hk] at h
      obtain ⟨hap, hll, htl⟩ := hp k (.head _) ok hk
      obtain ⟨h1, h2, h3⟩ := Oper.apart_spec hap
      have selk := fun cs b => hsel k ok cs b hk
      have seli := fun cs b => hsel i oi cs b hi
      have exi : ∀ (a : Act) (u : Value), execOp (a.put ok.dst u).eval oi = execOp a.eval oi := fun a u => execOp_put oi seli a ok.dst u h1
      have exk : ∀ (a : Act) (u : Value), execOp (a.put oi.dst u).eval ok = execOp a.eval ok := fun a u => execOp_put ok selk a oi.dst u h3
      have wai : ∀ (a : Act) (u : Value), Region.wanted oi (yielded ops (a.put ok.dst u).tmps) = Region.wanted oi (yielded ops a.tmps) := fun a u => wanted_put oi a ok.dst u h1
      have wak : ∀ (a : Act) (u : Value), Region.wanted ok (yielded ops (a.put oi.dst u).tmps) = Region.wanted ok (yielded ops a.tmps) := fun a u => wanted_put ok a oi.dst u h3
      have comm : ∀ (a : Act) (u v : Value), (a.put ok.dst u).put oi.dst v = (a.put oi.dst v).put ok.dst u := fun a u v => (Act.put_comm a u v h2)
      have qi : ∀ (a : Act) (u v : Value), quietE P C oi (a.put ok.dst u) v ↔ quietE P C oi a v := fun a u v => by unfold quietE; rw [exi]
      have qk : ∀ (a : Act) (u v : Value), quietE P C ok (a.put oi.dst u) v ↔ quietE P C ok a v := fun a u v => by unfold quietE; rw [exk]
      by_cases hwk : Region.wanted ok (yielded ops a.tmps) = true
      · rw [if_pos hwk] at h
        by_cases hlk : loud ok.op = true
        · rw [if_pos hlk] at h
          have hli : loud oi.op = false := by simpa [hlk] using hll
          have hCw : C w := hC.resolve_right fun hh => by
            have := hh i (by simp) oi hi
            rw [hli] at this; cases this
          have h' := h.mono (k' := fun v w' => C w' ∧ stepMix P ops C i (wpMix P ops C Q (pre ++ post)) (a.put ok.dst v) w') fun v w' hh =>
            have hc := hh.1.resolve_right (by rw [htl hli]; simp)
            ⟨hc, ih' _ _ (.inl hc) hh.2⟩
          unfold stepMix at h' ⊢
          simp only [hi, hli, wai] at h' ⊢
          by_cases hwi : Region.wanted oi (yielded ops a.tmps) = true
          · simp only [hwi, if_true, Bool.false_eq_true, if_false] at h' ⊢
            obtain ⟨v0, w0, _, u0, hu0, _⟩ := h'.some
            rw [qi] at hu0
            refine ⟨u0, hu0, ?_⟩
            simp only [List.cons_append, wpMix, hk, wak, hwk, if_true, hlk]
            rw [runsTo_same (exk a u0)]
            refine h'.mono fun v w' ⟨hC', u, hu, hh⟩ => ⟨.inl hC', ?_⟩
            rw [qi] at hu
            have e := (hu w hCw).symm.trans (hu0 w hCw)
            injection e with e _
            injection e with e
            subst e
            rw [← comm]; exact hh
          · simp only [hwi, if_false, Bool.false_eq_true] at h' ⊢
            simp only [List.cons_append, wpMix, hk, wak, hwk, if_true, hlk]
            rw [runsTo_same (exk a undef)]
            refine h'.mono fun v w' ⟨hC', hh⟩ => ⟨.inl hC', ?_⟩
            rw [← comm]; exact hh
        · rw [if_neg hlk] at h
          obtain ⟨v, hv, h⟩ := h
          have h' := ih' _ _ hC' h
          unfold stepMix at h' ⊢
          simp only [hi, wai, runsTo_same (exi a v)] at h' ⊢
          have fin : ∀ u w', wpMix P ops C Q (pre ++ post) ((a.put ok.dst v).put oi.dst u) w' → wpMix P ops C Q (k :: pre ++ post) (a.put oi.dst u) w' := by
            intro u w' hh
            simp only [List.cons_append, wpMix, hk, wak, hwk, if_true, hlk, if_false, Bool.false_eq_true]
            exact ⟨v, (qk a u v).2 hv, by rw [← comm]; exact hh⟩
          split
          · rename_i hwi
            rw [if_pos hwi] at h'
            split
            · rename_i hli
              rw [if_pos hli] at h'
              exact h'.mono fun u w' hh => ⟨hh.1, fin _ _ hh.2⟩
            · rename_i hli
              rw [if_neg hli] at h'
              obtain ⟨u, hu, hh⟩ := h'
              exact ⟨u, (qi a v u).1 hu, fin _ _ hh⟩
          · rename_i hwi
            rw [if_neg hwi] at h'
            exact fin _ _ h'
      · rw [if_neg hwk] at h
        have h' := ih' _ _ hC' h
        unfold stepMix at h' ⊢
        simp only [hi, wai, runsTo_same (exi a undef)] at h' ⊢
        have fin : ∀ u w', wpMix P ops C Q (pre ++ post) ((a.put ok.dst undef).put oi.dst u) w' → wpMix P ops C Q (k :: pre ++ post) (a.put oi.dst u) w' := by
          intro u w' hh
          simp only [List.cons_append, wpMix, hk, wak, hwk, if_false, Bool.false_eq_true]
          rw [← comm]; exact hh
        split
        · rename_i hwi
          rw [if_pos hwi] at h'
          split
          · rename_i hli
            rw [if_pos hli] at h'
            exact h'.mono fun u w' hh => ⟨hh.1, fin _ _ hh.2⟩
          · rename_i hli
            rw [if_neg hli] at h'
            obtain ⟨u, hu, hh⟩ := h'
            exact ⟨u, (qi a undef u).1 hu, fin _ _ hh⟩
        · rename_i hwi
          rw [if_neg hwi] at h'
          exact fin _ _ h'

theorem directB_spec (h : directB ops = true) {j : Nat} {o : Oper} (hj : ops[j]? = some o) {e : Edge} (he : e ∈ o.after) (hb : Region.binds .any e = true) : e.on < j := by
  unfold directB at h
  rw [List.all_eq_true] at h
  have hlt : j < ops.size := (Array.getElem?_eq_some_iff.1 hj).1
  have := h j (List.mem_range.2 hlt)
  rw [hj] at this
  simp only at this
  rw [Array.all_eq_true] at this
  obtain ⟨x, hx, hex⟩ := Array.mem_iff_getElem.1 he
  have := this x hx
  rw [hex] at this
  simpa [hb] using this

theorem any_of_mix {Q : Act → World → Prop} {Q' : Exit → Act → World → Prop} (hQ : ∀ a w, Q a w → Q' .normal a w) (hns : Region.noSelect ops = true) (hm : mixB ops = true) :
    ∀ (l : List Nat) (listed : Array Bool) (a : Act) (w : World), l.Pairwise (· < ·) → (∀ j, j ∈ l ↔ j < ops.size ∧ listed.getD j true = false) → listed.size = ops.size →
    (∀ j o, ops[j]? = some o → listed.getD j false = true → ∀ e ∈ o.after, Region.binds .any e = true → listed.getD e.on false = true) →
    (C w ∨ ∀ k ∈ l, ∀ o, ops[k]? = some o → loud o.op = true) → wpMix P ops C Q l a w → wpAny P .any ops Q' l.length listed a w := by
  simp only [mixB, Bool.and_eq_true] at hm
  obtain ⟨hdir, hpair⟩ := hm
  have key : ∀ (n : Nat) (l : List Nat) (listed : Array Bool) (a : Act) (w : World), l.length = n → l.Pairwise (· < ·) → (∀ j, j ∈ l ↔ j < ops.size ∧ listed.getD j true = false) → listed.size = ops.size →
    (∀ j o, ops[j]? = some o → listed.getD j false = true → ∀ e ∈ o.after, Region.binds .any e = true → listed.getD e.on false = true) →
    (C w ∨ ∀ k ∈ l, ∀ o, ops[k]? = some o → loud o.op = true) → wpMix P ops C Q l a w → wpAny P .any ops Q' n listed a w := by
    intro n
    induction n with
    | zero =>
      intro l listed a w hn hpw hmem hsz hcl hC h
      have hl : l = [] := List.eq_nil_of_length_eq_zero hn
      subst hl
      refine ⟨?_, hQ _ _ h⟩
      rw [List.eq_nil_iff_forall_not_mem]
      intro i hi
      obtain ⟨h1, oi, h2, _⟩ := mem_ready.1 hi
      have := (hmem i).2 ⟨(Array.getElem?_eq_some_iff.1 h2).1, h1⟩
      cases this
    | succ n ih =>
      intro l listed a w hn hpw hmem hsz hcl hC h
      have gfalse : ∀ j, j < ops.size → j ∉ l → listed.getD j false = true := by
        intro j hj hjl
        have : ¬ listed.getD j true = false := fun hh => hjl ((hmem j).2 ⟨hj, hh⟩)
        have hjs : j < listed.size := by omega
        simp only [Array.getD, hjs, dif_pos] at this ⊢
        simpa using this
      constructor
      · intro hr
        exfalso
        cases l with
        | nil => simp at hn
        | cons i l =>
          have hi := (hmem i).1 (.head _)
          have hin : i ∈ Region.ready .any ops listed := by
            refine mem_ready.2 ⟨hi.2, ops[i], Array.getElem?_eq_getElem hi.1, ?_⟩
            intro e he hb
            have hlt := directB_spec hdir (Array.getElem?_eq_getElem hi.1) he hb
            refine gfalse _ (by omega) fun hmem' => ?_
            rcases List.mem_cons.1 hmem' with h | h
            · omega
            · have := (List.pairwise_cons.1 hpw).1 _ h; omega
          rw [hr] at hin
          cases hin
      · intro i hi
        obtain ⟨hun, oi, hoi, hpre⟩ := mem_ready.1 hi
        have hilt : i < ops.size := (Array.getElem?_eq_some_iff.1 hoi).1
        have hil : i ∈ l := (hmem i).2 ⟨hilt, hun⟩
        obtain ⟨pre, post, rfl⟩ := List.append_of_mem hil
        have hpw' := List.pairwise_append.1 hpw
        have hlt : ∀ k ∈ pre, k < i := fun k hk => hpw'.2.2 k hk i (.head _)
        have hgt : ∀ k ∈ post, i < k := fun k hk => (List.pairwise_cons.1 hpw'.2.1).1 k hk
        -- nothing that is still to come is waited for
        have hclD : Closed ops fun j => j = i ∨ listed.getD j false = true := fun j hj o ho e he hb => by
          rcases hj with rfl | hj
          · rw [hoi] at ho; injection ho with ho; subst ho
            exact .inr (hpre e he hb)
          · exact .inr (hcl j o ho hj e he hb)
        have hnw : ∀ k, k ≠ i → k ∈ pre ++ i :: post → waitsC (closL ops.toList #[]) i k = false := by
          intro k hki hk
          rw [Bool.eq_false_iff]
          intro hw
          rcases waitsC_step hclD i k (.inl rfl) hw with h | h
          · exact hki h
          · have := ((hmem k).1 hk)
            have hks : k < listed.size := by omega
            have h2 := this.2
            simp only [Array.getD, hks, dif_pos] at h h2
            rw [h] at h2; cases h2
        have hp : ∀ k ∈ pre, ∀ ok, ops[k]? = some ok → ok.apart ops oi = true ∧ (loud ok.op && loud oi.op) = false ∧ (loud oi.op = false → tailB ops k = false) := by
          intro k hk ok hok
          rw [List.all_eq_true] at hpair
          have h1 := hpair i (List.mem_range.2 hilt)
          rw [List.all_eq_true] at h1
          have h2 := h1 k (List.mem_range.2 (hlt k hk))
          unfold pairC at h2
          have hki : k ≠ i := by have := hlt k hk; omega
          simp only [hok, hoi, hnw k hki (by simp [hk]), Bool.or_false, Bool.and_eq_true] at h2
          refine ⟨h2.1, ?_, ?_⟩
          · have := h2.2
            cases hx : (loud ok.op && loud oi.op)
            · rfl
            · rw [hx] at this; cases this
          · intro hq
            rw [Bool.eq_false_iff]
            intro ht
            unfold tailB at ht
            rw [List.all_eq_true] at ht
            have h3 := ht i (List.mem_range.2 hilt)
            simp only [hoi, hq, Bool.or_false, Bool.or_eq_true, beq_iff_eq] at h3
            rcases h3 with h3 | h3
            · exact hki h3.symm
            · have := waitsC_step (ops := ops) (D := fun j => j ≤ k) (fun j hj o ho e he hb => by have := directB_spec hdir ho he hb; show e.on ≤ k; omega) k i (Nat.le_refl _) h3
              have := hlt k hk
              omega
        have hs := pull hoi hns post pre a w hC hp h
        have hnext : ∀ a' w', (C w' ∨ tailB ops i = true ∨ ∀ k ∈ pre ++ i :: post, ∀ o, ops[k]? = some o → loud o.op = true) → wpMix P ops C Q (pre ++ post) a' w' → wpAny P .any ops Q' n (listed.setIfInBounds i true) a' w' := by
          intro a' w' hC' hh
          have his : i < listed.size := by omega
          have hC' : C w' ∨ ∀ k ∈ pre ++ post, ∀ o, ops[k]? = some o → loud o.op = true := by
            rcases hC' with h | h | h
            · exact .inl h
            · refine .inr fun k hk o ho => ?_
              have hki : k ≠ i := by
                rcases List.mem_append.1 hk with h | h
                · have := hlt k h; omega
                · have := hgt k h; omega
              have hkl : k ∈ pre ++ i :: post := by
                rcases List.mem_append.1 hk with h | h
                · simp [h]
                · simp [h]
              unfold tailB at h
              rw [List.all_eq_true] at h
              have h3 := h k (List.mem_range.2 ((hmem k).1 hkl).1)
              simp only [ho, hnw k hki hkl, Bool.or_false, Bool.or_eq_true, beq_iff_eq] at h3
              exact h3.resolve_left hki
            · exact .inr fun k hk => h k (by
                rcases List.mem_append.1 hk with h | h
                · simp [h]
                · simp [h])
          refine ih (pre ++ post) _ a' w' (by simp at hn ⊢; omega) ?_ ?_ (by simp [hsz]) ?_ hC' hh
          · exact List.pairwise_append.2 ⟨hpw'.1, (List.pairwise_cons.1 hpw'.2.1).2, fun x hx y hy => hpw'.2.2 x hx y (.tail _ hy)⟩
          · intro j
            have hj := hmem j
            by_cases hji : j = i
            · subst hji
              simp only [Array.getD, Array.size_setIfInBounds, his, dif_pos]
              constructor
              · intro hh
                rcases List.mem_append.1 hh with h | h
                · have := hlt j h; omega
                · have := hgt j h; omega
              · intro hh; simp at hh
            · rw [getD_set_ne true (Ne.symm hji)]
              rw [← hj]
              simp [hji]
          · intro j o ho hj e he hb
            have gset : ∀ k, (listed.setIfInBounds i true).getD k false = true ↔ k = i ∨ listed.getD k false = true := by
              intro k
              by_cases hki : k = i
              · subst hki; simp [Array.getD, his]
              · rw [getD_set_ne false (Ne.symm hki)]; simp [hki]
            rw [gset] at hj ⊢
            rcases hj with rfl | hj
            · rw [hoi] at ho; injection ho with ho; subst ho
              exact .inr (hpre e he hb)
            · exact .inr (hcl j o ho hj e he hb)
        unfold stepMix at hs
        unfold wpOp
        simp only [hoi] at hs ⊢
        split
        · rename_i hw
          rw [if_pos hw] at hs
          left
          split at hs
          · exact hs.wp fun v w' hh => hnext _ _ (hh.1.imp id .inl) hh.2
          · rename_i hlo
            obtain ⟨v, hv, hh⟩ := hs
            have hCw : C w := hC.resolve_right fun hh => hlo (hh i (by simp) oi hoi)
            exact (runsTo_value (hv w hCw) (k := fun u w' => u = v ∧ w' = w) ⟨rfl, rfl⟩).wp fun u w' ⟨hu, hw'⟩ => by subst hu; subst hw'; exact hnext _ _ (.inl hCw) hh
        · rename_i hw
          rw [if_neg hw] at hs
          exact hnext _ _ (hC.imp id .inr) hs
  intro l listed a w hpw hmem hsz hcl hC h
  exact key _ l listed a w rfl hpw hmem hsz hcl hC h

theorem region_mix {id : Nat} {Q : Act → World → Prop} {Q' : Exit → Act → World → Prop} (hQ : ∀ a w, Q a w → Q' .normal a w) (hf : P.follows .mixedOrders = true) (hns : Region.noSelect ops = true) (hm : mixB ops = true)
    {a : Act} {w : World} (hC : C { w with drawn := w.drawn + 1 }) (h : wpMix P ops C Q (List.range ops.size) a { w with drawn := w.drawn + 1 }) : (Code.region id ops true).wp P Q' a w := by
  refine wp_region_any hf ?_
  have := any_of_mix (P := P) (C := C) hQ hns hm (List.range ops.size) (Array.replicate ops.size false) a _ List.pairwise_lt_range (fun j => by
    simp only [List.mem_range]
    constructor
    · intro hj; exact ⟨hj, by simp [Array.getD, hj]⟩
    · intro hj; exact hj.1) (by simp) (fun j o ho hj => by
      have hjs : j < ops.size := (Array.getElem?_eq_some_iff.1 ho).1
      simp [Array.getD, hjs] at hj) (.inl hC) h
  simpa using this
end mix

/-- Frames that differ at some slots alone. -/
def Agree (M : List Nat) (f g : Fr) : Prop := ∀ t, ¬ t ∈ M → f t = g t
theorem Agree.refl (M : List Nat) (f : Fr) : Agree M f f := fun _ _ => rfl
theorem Agree.trans {M : List Nat} {f g h : Fr} (a : Agree M f g) (b : Agree M g h) : Agree M f h := fun t ht => (a t ht).trans (b t ht)
theorem Agree.mono {M M' : List Nat} {f g : Fr} (a : Agree M f g) (h : ∀ t, t ∈ M → t ∈ M') : Agree M' f g := fun t ht => a t fun hh => ht (h t hh)
theorem Agree.puto {M : List Nat} {N : Nat} {f : Fr} {d : Option Nat} {v : Value} (h : ∀ x, d = some x → x ∈ M) : Agree M (puto N f d v) f := by
  intro t ht
  cases d with
  | none => rfl
  | some d =>
    have hne : t ≠ d := fun e => ht (e ▸ h d rfl)
    have : Nat.beq t d = false := by
      rw [Bool.eq_false_iff]; intro hh; exact hne (Nat.eq_of_beq_eq_true hh)
    simp [Dk.puto, upd, this]
def dsts (l : List Oper) : List Nat := l.filterMap (·.dst)

/-- A region that draws its order. -/
def drawK (P : Program) (N : Nat) (ops : Array Oper) (k : Fr → World → Prop) (f : Fr) (w : World) : Prop :=
  ∀ a, R N a f → ∀ id Q, (∀ a' f' w', R N a' f' → Agree (dsts ops.toList) f' f → k f' w' → Q .normal a' w') → (Code.region id ops true).wp P Q a w

theorem yielded_eq {N : Nat} {a : Act} {f : Fr} (hR : R N a f) (ops : Array Oper) (j d : Nat) (hd : (ops[j]?).bind (·.dst) = some d) :
    yielded ops a.tmps j = match f d with | .bool b => some b | _ => none := by
  have hg := hR.get d
  unfold yielded
  simp only [hd, Option.bind_some]
  by_cases hs : d < a.tmps.size
  · simp only [Array.getD, hs, dif_pos] at hg
    rw [Array.getElem?_eq_getElem hs]
    have hg' : a.tmps[d] = f d := hg
    rw [hg']
    cases f d <;> rfl
  · simp only [Array.getD, hs, dif_neg, not_false_eq_true] at hg
    rw [Array.getElem?_eq_none (by omega), ← hg]
    rfl

theorem andThen_value {α : Type} {r : Result α} {g : α → Value} {n : Next} {w' : World} (h : (r.andThen fun a w => Result.ok (Next.value (g a)) w) = .ok n w') : ∃ v, n = .value v := by
  cases r with
  | ok a w => simp at h; exact ⟨_, h.1.symm⟩
  | halt x w => simp [Result.andThen] at h

theorem quiet_value {P : Program} {o : Oper} (hq : loud o.op = false) (ρ : Operand → Value) (w : World) {n : Next} {w' : World} (h : (execOp ρ o).run P w = .ok n w') : ∃ v, n = .value v := by
  obtain ⟨dst, op, ty, pos, after, guard⟩ := o
  have val : ∀ {s : Sem Value}, ((do let v ← s; pure (Next.value v) : Sem Next).run P w = .ok n w') → ∃ v, n = .value v := by
    intro s hs
    rw [Sem.run_bind] at hs
    exact andThen_value (g := fun v => v) hs
  cases op <;> simp only [loud, Bool.true_eq_false] at hq
  case move x => simp [execOp] at h; exact ⟨_, h.1.symm⟩
  case assign x => simp [execOp] at h; exact ⟨_, h.1.symm⟩
  case pick c a b =>
    simp only [execOp, Sem.run_bind] at h
    exact andThen_value h
  case load t x => exact val h
  case nilCheck x =>
    simp only [execOp] at h
    split at h
    · simp [runtimePanic] at h
    · simp [runtimePanic] at h
    · simp [runtimePanic] at h
    · split at h
      · simp [runtimePanic] at h
      · rw [Sem.run_bind] at h
        simp only [run_program, Result.andThen_ok, Sem.run_bind] at h
        generalize (nilAhead _ _ _ _).run P w = r at h
        cases r with
        | halt x w => simp [Result.andThen] at h
        | ok a w2 =>
          simp only [Result.andThen_ok] at h
          split at h
          · simp at h
          · simp at h; exact ⟨_, h.1.symm⟩
      · simp at h; exact ⟨_, h.1.symm⟩
    · simp at h; exact ⟨_, h.1.symm⟩
  case binOp a b c d e => exact val h
  case unOp a b c => exact val h
  case convert a b c => exact val h
  case makeFunc a b c => exact val h
  case build a b => exact val h
  case slice a b c d e => exact val h
  case fieldAddr a b c => exact val h
  case field a b c => exact val h
  case indexAddr a b c => exact val h
  case index a b c => exact val h
  case lookup a b c d => exact val h
  case extract a b => exact val h
  case call c =>
    obtain ⟨callee, args, ats⟩ := c
    cases callee with
    | value f => simp only [Bool.true_eq_false] at hq
    | invoke f m => simp only [Bool.true_eq_false] at hq
    | builtin b =>
      cases b <;> simp only [Bool.true_eq_false] at hq <;> simp only [execOp, resolve, invoke, builtin] at h <;> exact val h

def qK (C : World → Prop) (step : World → (Value → World → Prop) → Prop) (k : Value → Prop) : Prop := ∃ v, (∀ w, C w → step w fun u w' => u = v ∧ w' = w) ∧ k v
theorem quiet {C : World → Prop} {step : World → (Value → World → Prop) → Prop} {k : Value → Prop} (v : Value) (h : ∀ w, C w → step w fun u w' => u = v ∧ w' = w) (hk : k v) : qK C step k := ⟨v, h, hk⟩

def qopK (P : Program) (C : World → Prop) (op : Op) (ty : TypeId) (f : Fr) (k : Value → Prop) : Prop :=
  match op with
  | .move x | .assign x => force (ev f x) k
  | .pick c a b =>
    match ev f c with
    | .bool t => condB t (force (ev f a) k) (force (ev f b) k)
    | _ => False
  | .nilCheck x =>
    match ev f x with
    | .pointer (some a) => k (.pointer (some a))
    | _ => qK C (fun w k' => opV P op ty f w k') k
  | .binOp o t x y u =>
    match binV o (ev f x) (ev f y) with
    | some v => k v
    | none => qK C (fun w k' => opV P (.binOp o t x y u) ty f w k') k
  | .unOp o t x =>
    match o, ev f x with
    | .not, .bool b => k (.bool !b)
    | _, _ => qK C (fun w k' => opV P (.unOp o t x) ty f w k') k
  | .extract x i =>
    match ev f x with
    | .tuple ⟨vs⟩ => match vs[i]? with | some v => force v k | none => False
    | _ => False
  | op => qK C (fun w k' => opV P op ty f w k') k

theorem qK_sound {P : Program} {C : World → Prop} {o : Oper} {a : Act} {f : Fr} {N : Nat} (hR : R N a f) (hq : loud o.op = false) {k : Value → Prop}
    (h : qK C (fun w k' => opV P o.op o.type f w k') k) : ∃ v, quietE P C o a v ∧ k v := by
  obtain ⟨v, h1, h2⟩ := h
  refine ⟨v, fun w hw => ?_, h2⟩
  have h3 := opV_sound o (h1 w hw)
  rw [← hR.eval] at h3
  unfold runsTo at h3
  split at h3
  · rename_i u w' hr; rw [hr, h3.1, h3.2]
  · rename_i w' hr; obtain ⟨u, hu⟩ := quiet_value hq _ _ hr; cases hu
  · rename_i g as w' hr; obtain ⟨u, hu⟩ := quiet_value hq _ _ hr; cases hu
  · exact h3.elim

theorem qopK_sound {P : Program} {C : World → Prop} {o : Oper} {a : Act} {f : Fr} {N : Nat} (hR : R N a f) (hq : loud o.op = false) {k : Value → Prop}
    (h : qopK P C o.op o.type f k) : ∃ v, quietE P C o a v ∧ k v := by
  have gen : ∀ v, (∀ w, opV P o.op o.type f w fun u w' => u = v ∧ w' = w) → k v → ∃ v, quietE P C o a v ∧ k v :=
    fun v h1 h2 => qK_sound hR hq ⟨v, fun w _ => h1 w, h2⟩
  obtain ⟨dst, op, ty, pos, after, guard⟩ := o
  cases op <;> simp only [qopK] at h
  case move x => rw [force_eq] at h; exact gen _ (fun w => by simp [opV, force_eq]) h
  case assign x => rw [force_eq] at h; exact gen _ (fun w => by simp [opV, force_eq]) h
  case pick c x y =>
    split at h
    · rename_i t hc
      rw [condB_eq] at h
      cases t
      · simp [force_eq] at h; exact gen _ (fun w => by simp [opV, hc, condB_eq, force_eq]) h
      · simp [force_eq] at h; exact gen _ (fun w => by simp [opV, hc, condB_eq, force_eq]) h
    · exact h.elim
  case nilCheck x =>
    split at h
    · rename_i ad hx; exact gen _ (fun w => by simp [opV, hx]) h
    · exact qK_sound hR hq h
  case binOp op t x y u =>
    split at h
    · rename_i v hv; exact gen _ (fun w => by simp [opV, hv]) h
    · exact qK_sound hR hq h
  case unOp op t x =>
    split at h
    · rename_i b hx; exact gen _ (fun w => by simp [opV, hx]) h
    · exact qK_sound hR hq h
  case extract x i =>
    split at h
    · rename_i vs hx
      split at h
      · rename_i v hv; rw [force_eq] at h; exact gen _ (fun w => by simp [opV, hx, hv, force_eq]) h
      · exact h.elim
    · exact h.elim
  all_goals exact qK_sound hR hq h

/-- The mixed walk of a region that draws its order. -/
def mixK (P : Program) (N : Nat) (C : World → Prop) (ops : Array Oper) (k : Fr → World → Prop) : Nat → List Oper → Fr → World → Prop
  | _, [], f, w => k f w
  | s, ⟨dst, op, ty, _, _, none⟩ :: rest, f, w =>
    match loud op with
    | true => opV P op ty f w fun v w' => (C w' ∨ tailB ops s = true) ∧ mixK P N C ops k (s + 1) rest (puto N f dst v) w'
    | false => qopK P C op ty f fun v => mixK P N C ops k (s + 1) rest (puto N f dst v) w
  | s, ⟨dst, op, ty, _, _, some (j, want)⟩ :: rest, f, w =>
    match (ops[j]?).bind (·.dst) with
    | some d =>
      match f d with
      | .bool b =>
        match want, loud op with
        | true, true => condB b (opV P op ty f w fun v w' => (C w' ∨ tailB ops s = true) ∧ mixK P N C ops k (s + 1) rest (puto N f dst v) w') (mixK P N C ops k (s + 1) rest (puto N f dst undef) w)
        | true, false => condB b (qopK P C op ty f fun v => mixK P N C ops k (s + 1) rest (puto N f dst v) w) (mixK P N C ops k (s + 1) rest (puto N f dst undef) w)
        | false, true => condB b (mixK P N C ops k (s + 1) rest (puto N f dst undef) w) (opV P op ty f w fun v w' => (C w' ∨ tailB ops s = true) ∧ mixK P N C ops k (s + 1) rest (puto N f dst v) w')
        | false, false => condB b (mixK P N C ops k (s + 1) rest (puto N f dst undef) w) (qopK P C op ty f fun v => mixK P N C ops k (s + 1) rest (puto N f dst v) w)
      | _ => mixK P N C ops k (s + 1) rest (puto N f dst undef) w
    | none => mixK P N C ops k (s + 1) rest (puto N f dst undef) w

theorem mixK_sound {P : Program} {N : Nat} {C : World → Prop} {ops : Array Oper} {k : Fr → World → Prop} : ∀ (l : List Oper) (s : Nat) (f : Fr) (w : World) (a : Act),
    (∀ j, j < l.length → l[j]? = ops[s + j]?) → R N a f → mixK P N C ops k s l f w → wpMix P ops C (fun a w => ∃ f, R N a f ∧ k f w) (List.range' s l.length) a w := by
  intro l
  induction l with
  | nil => intro s f w a _ hR h; exact ⟨f, hR, h⟩
  | cons o rest ih =>
    intro s f w a hl hR h
    have h0 : ops[s]? = some o := by have := hl 0 (by simp); simpa using this.symm
    have hl' : ∀ j, j < rest.length → rest[j]? = ops[s + 1 + j]? := fun j hj => by
      have := hl (j + 1) (by simp; omega)
      simpa [Nat.add_assoc, Nat.add_comm 1 j] using this
    have next : ∀ v w', mixK P N C ops k (s + 1) rest (puto N f o.dst v) w' → wpMix P ops C (fun a w => ∃ f, R N a f ∧ k f w) (List.range' (s + 1) rest.length) (a.put o.dst v) w' :=
      fun v w' hh => ih (s + 1) _ _ _ hl' (hR.put _ _) hh
    have run1 : (opV P o.op o.type f w fun v w' => (C w' ∨ tailB ops s = true) ∧ mixK P N C ops k (s + 1) rest (puto N f o.dst v) w') →
        runsTo P o a.eval w fun v w' => (C w' ∨ tailB ops s = true) ∧ wpMix P ops C (fun a w => ∃ f, R N a f ∧ k f w) (List.range' (s + 1) rest.length) (a.put o.dst v) w' := by
      intro hh
      have := opV_sound o hh
      rw [← hR.eval] at this
      exact this.mono fun v w' hv => ⟨hv.1, next _ _ hv.2⟩
    have run2 : loud o.op = false → (qopK P C o.op o.type f fun v => mixK P N C ops k (s + 1) rest (puto N f o.dst v) w) →
        ∃ v, quietE P C o a v ∧ wpMix P ops C (fun a w => ∃ f, R N a f ∧ k f w) (List.range' (s + 1) rest.length) (a.put o.dst v) w := by
      intro hq hh
      obtain ⟨v, hv, hh⟩ := qopK_sound hR hq hh
      exact ⟨v, hv, next _ _ hh⟩
    simp only [List.length_cons, List.range'_succ, wpMix, h0]
    obtain ⟨dst, op, ty, pos, after, guard⟩ := o
    cases guard with
    | none =>
      simp only [Region.wanted, if_true]
      simp only [mixK] at h
      cases hlo : loud op with
      | true => simp only [hlo] at h; rw [if_pos rfl]; exact run1 h
      | false => simp only [hlo] at h; rw [if_neg (by simp)]; exact run2 hlo h
    | some jw =>
      obtain ⟨j, want⟩ := jw
      simp only [mixK] at h
      simp only [Region.wanted]
      cases hd : (ops[j]?).bind (·.dst) with
      | none =>
        simp only [hd] at h
        have : yielded ops a.tmps j = none := by unfold yielded; simp [hd]
        simp [this]
        exact next _ _ h
      | some d =>
        simp only [hd] at h
        have hy := yielded_eq hR ops j d hd
        cases hfd : f d with
        | bool b =>
          simp only [hfd] at h hy
          cases hlo : loud op <;> cases want <;> cases b <;> simp [condB_eq, hlo] at h <;> simp [hy] <;>
            first | exact run1 h | exact run2 hlo h | exact next _ _ h
        | _ => simp only [hfd] at h hy; simp [hy]; exact next _ _ h

theorem qopK_mono {P : Program} {C : World → Prop} {op : Op} {ty : TypeId} {f : Fr} {k k' : Value → Prop} (hk : ∀ v, k v → k' v) (h : qopK P C op ty f k) : qopK P C op ty f k' := by
  have hq : ∀ {step : World → (Value → World → Prop) → Prop}, qK C step k → qK C step k' := fun ⟨v, h1, h2⟩ => ⟨v, h1, hk _ h2⟩
  cases op <;> simp only [qopK, force_eq] at h ⊢
  case move x => exact hk _ h
  case assign x => exact hk _ h
  case pick c a b =>
    split
    · rename_i t hc
      simp only [hc] at h
      rw [condB_eq] at h ⊢
      cases t
      · exact hk _ h
      · exact hk _ h
    · rename_i hc
      split at h
      · rename_i t ht; exact absurd ht (hc t)
      · exact h
  case nilCheck x =>
    split
    · rename_i a hx; simp only [hx] at h; exact hk _ h
    · rename_i hx
      split at h
      · rename_i a ha; exact absurd ha (hx a)
      · exact hq h
  case binOp op t x y u =>
    split
    · rename_i v hv; simp only [hv] at h; exact hk _ h
    · rename_i hv; simp only [hv] at h; exact hq h
  case unOp op t x =>
    split
    · rename_i b hb; simp only [hb] at h; exact hk _ h
    · rename_i hb
      split at h
      · rename_i b hb'; exact (hb b rfl hb').elim
      · exact hq h
  case extract x i =>
    split
    · rename_i vs hx
      simp only [hx] at h
      split
      · rename_i v hv; simp only [hv] at h; exact hk _ h
      · rename_i hv; simp only [hv] at h
    · rename_i hx
      split at h
      · rename_i vs hvs; exact absurd hvs (hx vs)
      · exact h
  all_goals exact hq h

theorem mixK_agree {P : Program} {N : Nat} {C : World → Prop} {ops : Array Oper} {k : Fr → World → Prop} (D : List Nat) : ∀ (s : Nat) (l : List Oper) (f : Fr) (w : World), (∀ x ∈ dsts l, x ∈ D) →
    mixK P N C ops k s l f w → mixK P N C ops (fun f' w' => Agree D f' f ∧ k f' w') s l f w := by
  have gen : ∀ (l : List Oper) (s : Nat) (f0 f : Fr) (w : World), Agree D f f0 → (∀ x ∈ dsts l, x ∈ D) → mixK P N C ops k s l f w → mixK P N C ops (fun f' w' => Agree D f' f0 ∧ k f' w') s l f w := by
    intro l
    induction l with
    | nil => intro s f0 f w ha _ h; exact ⟨ha, h⟩
    | cons o rest ih =>
      intro s f0 f w ha hD h
      obtain ⟨dst, op, ty, pos, after, guard⟩ := o
      have hD' : ∀ x ∈ dsts rest, x ∈ D := fun x hx => hD x (by
        cases dst with
        | none => simpa [dsts] using hx
        | some d => simp only [dsts, List.filterMap_cons]; exact .tail _ hx)
      have hd : ∀ x, dst = some x → x ∈ D := fun x hx => hD x (by subst hx; simp [dsts])
      have nx : ∀ v w', mixK P N C ops k (s + 1) rest (puto N f dst v) w' → mixK P N C ops (fun f' w' => Agree D f' f0 ∧ k f' w') (s + 1) rest (puto N f dst v) w' :=
        fun v w' hh => ih (s + 1) f0 _ _ ((Agree.puto hd).trans ha) hD' hh
      have r1 : (opV P op ty f w fun v w' => (C w' ∨ tailB ops s = true) ∧ mixK P N C ops k (s + 1) rest (puto N f dst v) w') → opV P op ty f w fun v w' => (C w' ∨ tailB ops s = true) ∧ mixK P N C ops (fun f' w' => Agree D f' f0 ∧ k f' w') (s + 1) rest (puto N f dst v) w' :=
        fun hh => opV_mono (fun v w' hv => ⟨hv.1, nx _ _ hv.2⟩) hh
      have r2 : (qopK P C op ty f fun v => mixK P N C ops k (s + 1) rest (puto N f dst v) w) → qopK P C op ty f fun v => mixK P N C ops (fun f' w' => Agree D f' f0 ∧ k f' w') (s + 1) rest (puto N f dst v) w :=
        fun hh => qopK_mono (fun v hv => nx _ _ hv) hh
      cases guard with
      | none =>
        simp only [mixK] at h ⊢
        cases hlo : loud op <;> simp only [hlo] at h ⊢
        · exact r2 h
        · exact r1 h
      | some jw =>
        obtain ⟨j, want⟩ := jw
        simp only [mixK] at h ⊢
        cases hdj : (ops[j]?).bind (·.dst) with
        | none => simp only [hdj] at h ⊢; exact nx _ _ h
        | some d =>
          simp only [hdj] at h ⊢
          cases hfd : f d with
          | bool b =>
            simp only [hfd] at h ⊢
            cases hlo : loud op <;> cases want <;> cases b <;> simp only [hlo, condB_eq, if_true, if_false, Bool.false_eq_true] at h ⊢ <;> first | exact r1 h | exact r2 h | exact nx _ _ h
          | _ => simp only [hfd] at h ⊢; exact nx _ _ h
  exact fun s l f w hD h => gen l s f f w (.refl _ _) hD h

theorem draw_mix {P : Program} {N : Nat} {ops : Array Oper} {k : Fr → World → Prop} {f : Fr} {w : World} (C : World → Prop) (hf : P.follows .mixedOrders = true)
    (hB : (Region.noSelect ops && mixB ops) = true) (hC : C w.drew) (h : mixK P N C ops k 0 ops.toList f w.drew) : drawK P N ops k f w := by
  intro a hR id Q hQ
  simp only [Bool.and_eq_true] at hB
  refine region_mix (C := C) (Q := fun a w => ∃ f', R N a f' ∧ (Agree (dsts ops.toList) f' f ∧ k f' w)) (fun a w ⟨f, hR, hk⟩ => hQ _ _ _ hR hk.1 hk.2) hf hB.1 hB.2 hC ?_
  have := mixK_sound ops.toList 0 f w.drew a (fun j _ => by simp) hR (mixK_agree (dsts ops.toList) 0 ops.toList f w.drew (fun _ h => h) h)
  simpa [List.range_eq_range'] using this

attribute [irreducible] qK drawK

/-- A loop. -/
def loopK (body : (Fr → World → Prop) → Fr → World → Prop) (f : Fr) (w : World) : Prop :=
  ∃ J : Nat → Fr → World → Prop, (∃ n, J n f w) ∧ ∀ n f w, J n f w → body (fun f' w' => ∃ m, m < n ∧ J m f' w') f w

def condK (v : Value) (p q : Prop) : Prop := match v with | .bool b => condB b p q | _ => False

def W (P : Program) (N : Nat) : Code → (Fr → World → Prop) → (Nat → Fr → World → Prop) → (Fr → World → Prop) → Fr → World → Prop
  | .skip, kn, _, _, f, w => kn f w
  | .label _, kn, _, _, f, w => kn f w
  | .seq a b, kn, kx, kr, f, w => W P N a (fun f w => W P N b kn kx kr f w) kx kr f w
  | .cond c x y, kn, kx, kr, f, w => condK (ev f c) (W P N x kn kx kr f w) (W P N y kn kx kr f w)
  | .block id c, kn, kx, kr, f, w => W P N c kn (fun j f w => bif Nat.beq j id then kn f w else kx j f w) kr f w
  | .exit id, _, kx, _, f, w => kx id f w
  | .ret, _, _, kr, f, w => kr f w
  | .loop c, _, kx, kr, f, w => loopK (fun kn f w => W P N c kn kx kr f w) f w
  | .region _ ops draw, kn, _, _, f, w => match draw with
    | true => drawK P N ops kn f w
    | false => opsK P N ops kn ops.toList f w
  | _, _, _, _, _, _ => False

def postOf (N : Nat) (kn : Fr → World → Prop) (kx : Nat → Fr → World → Prop) (kr : Fr → World → Prop) : Exit → Act → World → Prop
  | .normal, a, w => ∃ f, R N a f ∧ kn f w
  | .exit id, a, w => ∃ f, R N a f ∧ kx id f w
  | .ret, a, w => ∃ f, R N a f ∧ kr f w
  | _, _, _ => False

theorem opsK_sound {P : Program} {N : Nat} {ops : Array Oper} {k : Fr → World → Prop} {Q : Exit → Act → World → Prop} (hk : ∀ a' f' w', R N a' f' → k f' w' → Q .normal a' w') :
    ∀ (l : List Oper) (a : Act) (f : Fr) (w : World), R N a f → opsK P N ops k l f w → wpList P ops Q l a w := by
  intro l
  induction l with
  | nil => intro a f w hR h; exact hk _ _ _ hR h
  | cons o rest ih =>
    intro a f w hR h
    have run : operK P N o.dst o.op o.type f w (opsK P N ops k rest) → o.wp P a w (wpList P ops Q rest) Q :=
      fun hh => operK_sound hR (fun a' f' w' hR' h' => ih _ _ _ hR' h') hh
    have skip : opsK P N ops k rest (puto N f o.dst undef) w → wpList P ops Q rest (a.put o.dst undef) w :=
      fun hh => ih _ _ _ (hR.put _ _) hh
    obtain ⟨dst, op, ty, pos, after, guard⟩ := o
    unfold wpList
    cases guard with
    | none =>
      simp only [Region.wanted, if_true]
      exact .inl (run h)
    | some jw =>
      obtain ⟨j, want⟩ := jw
      simp only [opsK] at h
      simp only [Region.wanted]
      cases hd : (ops[j]?).bind (·.dst) with
      | none =>
        simp only [hd] at h
        have : yielded ops a.tmps j = none := by unfold yielded; simp [hd]
        simp [this]
        exact skip h
      | some d =>
        simp only [hd] at h
        have hy := yielded_eq hR ops j d hd
        cases hfd : f d with
        | bool b =>
          simp only [hfd] at h hy
          cases want <;> cases b <;> simp [condB_eq] at h <;> simp [hy] <;> first | exact .inl (run h) | exact skip h
        | _ => simp only [hfd] at h hy; simp [hy]; exact skip h

theorem least_of {p : Nat → Prop} (h : ∃ n, p n) : ∃ n, p n ∧ ∀ m, p m → n ≤ m := by
  obtain ⟨n, hn⟩ := h
  induction n using Nat.strongRecOn with
  | _ n ih =>
    by_cases hm : ∃ m, m < n ∧ p m
    · obtain ⟨m, hlt, hp⟩ := hm; exact ih m hlt hp
    · exact ⟨n, hn, fun m hp => Nat.le_of_not_lt fun hlt => hm ⟨m, hlt, hp⟩⟩

theorem W_sound {P : Program} {N : Nat} (c : Code) : ∀ (kn : Fr → World → Prop) (kx : Nat → Fr → World → Prop) (kr : Fr → World → Prop) (f : Fr) (w : World) (a : Act),
    R N a f → W P N c kn kx kr f w → c.wp P (postOf N kn kx kr) a w := by
  induction c with
  | skip => intro kn kx kr f w a hR h; exact wp_skip ⟨f, hR, h⟩
  | label l => intro kn kx kr f w a hR h; exact wp_label ⟨f, hR, h⟩
  | exit id => intro kn kx kr f w a hR h; exact wp_exit ⟨f, hR, h⟩
  | ret => intro kn kx kr f w a hR h; exact wp_ret ⟨f, hR, h⟩
  | goto l => intro kn kx kr f w a hR h; exact h.elim
  | refuse y => intro kn kx kr f w a hR h; exact h.elim
  | scope c ih => intro kn kx kr f w a hR h; exact h.elim
  | rangeFunc x p s b ih1 ih2 => intro kn kx kr f w a hR h; exact h.elim
  | seq x y ihx ihy =>
    intro kn kx kr f w a hR h
    refine wp_seq (Code.wp_mono ?_ (ihx _ _ _ _ _ _ hR h))
    intro e a w hq
    cases e with
    | normal => obtain ⟨f', hR', h'⟩ := hq; exact ihy _ _ _ _ _ _ hR' h'
    | exit id => exact hq
    | goto l => exact hq.elim
    | ret => exact hq
    | panic ch => exact hq.elim
    | outgrown => exact hq.elim
  | cond c x y ihx ihy =>
    intro kn kx kr f w a hR h
    simp only [W, condK] at h
    split at h
    · rename_i b hb
      have hc : a.eval c = .bool b := by rw [hR.eval, hb]
      rw [condB_eq] at h
      refine wp_cond hc ?_
      cases b
      · exact ihy _ _ _ _ _ _ hR (by simpa using h)
      · exact ihx _ _ _ _ _ _ hR (by simpa using h)
    · exact h.elim
  | block id c ih =>
    intro kn kx kr f w a hR h
    refine wp_block (Code.wp_mono ?_ (ih _ _ _ _ _ _ hR h))
    intro e a w hq
    cases e with
    | normal => exact hq
    | exit j =>
      obtain ⟨f', hR', h'⟩ := hq
      simp only [Exit.inBlock]
      by_cases hj : j = id
      · subst hj
        rw [if_pos rfl]
        have : Nat.beq j j = true := Nat.beq_refl j
        rw [this] at h'
        exact ⟨f', hR', h'⟩
      · rw [if_neg hj]
        have : Nat.beq j id = false := by
          rw [Bool.eq_false_iff]; intro hh; exact hj (Nat.eq_of_beq_eq_true hh)
        rw [this] at h'
        exact ⟨f', hR', h'⟩
    | goto l => exact hq.elim
    | ret => exact hq
    | panic ch => exact hq.elim
    | outgrown => exact hq.elim
  | loop c ih =>
    intro kn kx kr f w a hR h
    obtain ⟨J, ⟨n0, h0⟩, hstep⟩ := h
    classical
    let I : Act → World → Prop := fun a w => ∃ n f, R N a f ∧ J n f w
    let μ : Act → World → Nat := fun a w => if h : ∃ n, ∃ f, R N a f ∧ J n f w then Classical.choose (least_of h) else 0
    refine wp_loop I μ ⟨n0, f, hR, h0⟩ ?_
    intro a w hI
    have hex : ∃ n, ∃ f, R N a f ∧ J n f w := hI
    obtain ⟨⟨f1, hR1, hJ1⟩, _⟩ := Classical.choose_spec (least_of hex)
    refine Code.wp_mono ?_ (ih _ _ _ _ _ _ hR1 (hstep _ _ _ hJ1))
    intro e a' w' hq
    cases e with
    | normal =>
      obtain ⟨f', hR', m, hm, hJ'⟩ := hq
      refine ⟨⟨m, f', hR', hJ'⟩, ?_⟩
      have hex' : ∃ n, ∃ f, R N a' f ∧ J n f w' := ⟨m, f', hR', hJ'⟩
      show (if h : ∃ n, ∃ f, R N a' f ∧ J n f w' then Classical.choose (least_of h) else 0) < (if h : ∃ n, ∃ f, R N a f ∧ J n f w then Classical.choose (least_of h) else 0)
      rw [dif_pos hex', dif_pos hex]
      exact Nat.lt_of_le_of_lt ((Classical.choose_spec (least_of hex')).2 m ⟨f', hR', hJ'⟩) hm
    | exit id => exact hq
    | goto l => exact hq.elim
    | ret => exact hq
    | panic ch => exact hq.elim
    | outgrown => exact hq.elim
  | region id ops draw =>
    intro kn kx kr f w a hR h
    cases draw with
    | true => simp only [W] at h; unfold drawK at h; exact h a hR id _ fun a' f' w' hR' _ h' => ⟨f', hR', h'⟩
    | false => exact wp_region_list (opsK_sound (fun a' f' w' hR' h' => ⟨f', hR', h'⟩) _ _ _ _ hR h)

def writes : Code → List Nat
  | .seq a b => writes a ++ writes b
  | .cond _ x y => writes x ++ writes y
  | .block _ c => writes c
  | .loop c => writes c
  | .region _ ops _ => dsts ops.toList
  | _ => []

theorem opsK_agree {P : Program} {N : Nat} {ops : Array Oper} {k : Fr → World → Prop} (D : List Nat) : ∀ (l : List Oper) (f0 f : Fr) (w : World), Agree D f f0 → (∀ x ∈ dsts l, x ∈ D) →
    opsK P N ops k l f w → opsK P N ops (fun f' w' => Agree D f' f0 ∧ k f' w') l f w := by
  intro l
  induction l with
  | nil => intro f0 f w ha _ h; exact ⟨ha, h⟩
  | cons o rest ih =>
    intro f0 f w ha hD h
    obtain ⟨dst, op, ty, pos, after, guard⟩ := o
    have hD' : ∀ x ∈ dsts rest, x ∈ D := fun x hx => hD x (by
      cases dst with
      | none => simpa [dsts] using hx
      | some d => simp only [dsts, List.filterMap_cons]; exact .tail _ hx)
    have hd : ∀ x, dst = some x → x ∈ D := fun x hx => hD x (by subst hx; simp [dsts])
    have nx : ∀ v w', opsK P N ops k rest (puto N f dst v) w' → opsK P N ops (fun f' w' => Agree D f' f0 ∧ k f' w') rest (puto N f dst v) w' :=
      fun v w' hh => ih f0 _ _ ((Agree.puto hd).trans ha) hD' hh
    have r1 : operK P N dst op ty f w (opsK P N ops k rest) → operK P N dst op ty f w (opsK P N ops (fun f' w' => Agree D f' f0 ∧ k f' w') rest) :=
      fun hh => opV_mono (fun v w' hv => nx _ _ hv) hh
    cases guard with
    | none => simp only [opsK] at h ⊢; exact r1 h
    | some jw =>
      obtain ⟨j, want⟩ := jw
      simp only [opsK] at h ⊢
      cases hdj : (ops[j]?).bind (·.dst) with
      | none => simp only [hdj] at h ⊢; exact nx _ _ h
      | some d =>
        simp only [hdj] at h ⊢
        cases hfd : f d with
        | bool b =>
          simp only [hfd] at h ⊢
          cases want <;> cases b <;> simp only [condB_eq, if_true, if_false, Bool.false_eq_true] at h ⊢ <;> first | exact r1 h | exact nx _ _ h
        | _ => simp only [hfd] at h ⊢; exact nx _ _ h

theorem W_mono {P : Program} {N : Nat} (c : Code) : ∀ {kn kn' : Fr → World → Prop} {kx kx' : Nat → Fr → World → Prop} {kr kr' : Fr → World → Prop} {f : Fr} {w : World},
    (∀ f w, kn f w → kn' f w) → (∀ j f w, kx j f w → kx' j f w) → (∀ f w, kr f w → kr' f w) → W P N c kn kx kr f w → W P N c kn' kx' kr' f w := by
  induction c with
  | skip => intro kn kn' kx kx' kr kr' f w h1 h2 h3 h; exact h1 _ _ h
  | label l => intro kn kn' kx kx' kr kr' f w h1 h2 h3 h; exact h1 _ _ h
  | exit id => intro kn kn' kx kx' kr kr' f w h1 h2 h3 h; exact h2 _ _ _ h
  | ret => intro kn kn' kx kx' kr kr' f w h1 h2 h3 h; exact h3 _ _ h
  | goto l => intro kn kn' kx kx' kr kr' f w h1 h2 h3 h; exact h.elim
  | refuse y => intro kn kn' kx kx' kr kr' f w h1 h2 h3 h; exact h.elim
  | scope c ih => intro kn kn' kx kx' kr kr' f w h1 h2 h3 h; exact h.elim
  | rangeFunc x p s b ih1 ih2 => intro kn kn' kx kx' kr kr' f w h1 h2 h3 h; exact h.elim
  | seq x y ihx ihy => intro kn kn' kx kx' kr kr' f w h1 h2 h3 h; exact ihx (fun f w hh => ihy h1 h2 h3 hh) h2 h3 h
  | cond c x y ihx ihy =>
    intro kn kn' kx kx' kr kr' f w h1 h2 h3 h
    simp only [W, condK] at h ⊢
    split
    · rename_i b hb
      simp only [hb] at h
      rw [condB_eq] at h ⊢
      cases b
      · exact ihy h1 h2 h3 h
      · exact ihx h1 h2 h3 h
    · rename_i hb
      split at h
      · rename_i b hb'; exact absurd hb' (hb b)
      · exact h
  | block id c ih =>
    intro kn kn' kx kx' kr kr' f w h1 h2 h3 h
    refine ih h1 (fun j f w hh => ?_) h3 h
    cases hj : Nat.beq j id <;> simp only [hj, cond_true, cond_false] at hh ⊢
    · exact h2 _ _ _ hh
    · exact h1 _ _ hh
  | loop c ih =>
    intro kn kn' kx kx' kr kr' f w h1 h2 h3 h
    obtain ⟨J, h0, hs⟩ := h
    exact ⟨J, h0, fun n f w hJ => ih (fun _ _ h => h) h2 h3 (hs n f w hJ)⟩
  | region id ops draw =>
    intro kn kn' kx kx' kr kr' f w h1 h2 h3 h
    cases draw with
    | true =>
      simp only [W] at h ⊢
      unfold drawK at h ⊢
      exact fun a hR id Q hQ => h a hR id Q fun a' f' w' hR' ha hk => hQ _ _ _ hR' ha (h1 _ _ hk)
    | false =>
      simp only [W] at h ⊢
      have gen : ∀ (l : List Oper) (f : Fr) (w : World), opsK P N ops kn l f w → opsK P N ops kn' l f w := by
        intro l
        induction l with
        | nil => intro f w h; exact h1 _ _ h
        | cons o rest ih =>
          intro f w h
          obtain ⟨dst, op, ty, pos, after, guard⟩ := o
          have r1 : operK P N dst op ty f w (opsK P N ops kn rest) → operK P N dst op ty f w (opsK P N ops kn' rest) := fun hh => opV_mono (fun v w' hv => ih _ _ hv) hh
          cases guard with
          | none => simp only [opsK] at h ⊢; exact r1 h
          | some jw =>
            obtain ⟨j, want⟩ := jw
            simp only [opsK] at h ⊢
            cases hdj : (ops[j]?).bind (·.dst) with
            | none => simp only [hdj] at h ⊢; exact ih _ _ h
            | some d =>
              simp only [hdj] at h ⊢
              cases hfd : f d with
              | bool b =>
                simp only [hfd] at h ⊢
                cases want <;> cases b <;> simp only [condB_eq, if_true, if_false, Bool.false_eq_true] at h ⊢ <;> first | exact r1 h | exact ih _ _ h
              | _ => simp only [hfd] at h ⊢; exact ih _ _ h
      exact gen _ _ _ h

/-- A piece of code turns the slots that it writes alone. -/
theorem W_agree {P : Program} {N : Nat} (c : Code) : ∀ {D : List Nat} {kn : Fr → World → Prop} {kx : Nat → Fr → World → Prop} {kr : Fr → World → Prop} {f0 f : Fr} {w : World},
    Agree D f f0 → (∀ x ∈ writes c, x ∈ D) → W P N c kn kx kr f w → W P N c (fun f' w' => Agree D f' f0 ∧ kn f' w') kx kr f w := by
  have aux : ∀ (c : Code) {D : List Nat} {kn : Fr → World → Prop} {kx : Nat → Fr → World → Prop} {kr : Fr → World → Prop} {f0 f : Fr} {w : World},
      Agree D f f0 → (∀ x ∈ writes c, x ∈ D) → W P N c kn kx kr f w → W P N c (fun f' w' => Agree D f' f0 ∧ kn f' w') (fun j f' w' => Agree D f' f0 ∧ kx j f' w') kr f w := by
    intro c
    induction c with
    | skip => intro D kn kx kr f0 f w ha _ h; exact ⟨ha, h⟩
    | label l => intro D kn kx kr f0 f w ha _ h; exact ⟨ha, h⟩
    | exit id => intro D kn kx kr f0 f w ha _ h; exact ⟨ha, h⟩
    | ret => intro D kn kx kr f0 f w ha _ h; exact h
    | goto l => intro D kn kx kr f0 f w ha _ h; exact h.elim
    | refuse y => intro D kn kx kr f0 f w ha _ h; exact h.elim
    | scope c ih => intro D kn kx kr f0 f w ha _ h; exact h.elim
    | rangeFunc x p s b ih1 ih2 => intro D kn kx kr f0 f w ha _ h; exact h.elim
    | seq x y ihx ihy =>
      intro D kn kx kr f0 f w ha hD h
      have h' := ihx ha (fun x hx => hD x (by simp [writes, hx])) h
      exact W_mono x (fun f' w' hh => ihy hh.1 (fun x hx => hD x (by simp [writes, hx])) hh.2) (fun _ _ _ hh => hh) (fun _ _ hh => hh) h'
    | cond c x y ihx ihy =>
      intro D kn kx kr f0 f w ha hD h
      simp only [W, condK] at h ⊢
      split
      · rename_i b hb
        simp only [hb] at h
        rw [condB_eq] at h ⊢
        cases b
        · exact ihy ha (fun x hx => hD x (by simp [writes, hx])) h
        · exact ihx ha (fun x hx => hD x (by simp [writes, hx])) h
      · rename_i hb
        split at h
        · rename_i b hb'; exact absurd hb' (hb b)
        · exact h
    | block id c ih =>
      intro D kn kx kr f0 f w ha hD h
      refine W_mono c (fun _ _ hh => hh) (fun j f w hh => ?_) (fun _ _ hh => hh) (ih ha hD h)
      cases hj : Nat.beq j id <;> simp only [hj, cond_true, cond_false] at hh ⊢
      · exact hh
      · exact hh
    | loop c ih =>
      intro D kn kx kr f0 f w ha hD h
      obtain ⟨J, ⟨n0, h0⟩, hs⟩ := h
      refine ⟨fun n f w => Agree D f f0 ∧ J n f w, ⟨n0, ha, h0⟩, fun n f w hJ => ?_⟩
      exact W_mono c (fun f' w' ⟨ha', m, hm, hJ'⟩ => ⟨m, hm, ha', hJ'⟩) (fun _ _ _ hh => hh) (fun _ _ hh => hh) (ih hJ.1 hD (hs n f w hJ.2))
    | region id ops draw =>
      intro D kn kx kr f0 f w ha hD h
      cases draw with
      | true =>
        simp only [W] at h ⊢
        unfold drawK at h ⊢
        exact fun a hR id Q hQ => h a hR id Q fun a' f' w' hR' ha' hk => hQ _ _ _ hR' ha' ⟨(ha'.mono hD).trans ha, hk⟩
      | false => exact opsK_agree D _ f0 f w ha hD h
  intro D kn kx kr f0 f w ha hD h
  exact W_mono c (fun _ _ hh => hh) (fun _ _ _ hh => hh.2) (fun _ _ hh => hh) (aux c ha hD h)

/-- A frame that is known at some slots. -/
def look : List (Nat × Value) → Nat → Value → Value
  | [], _, d => d
  | (s, v) :: l, t, d => bif Nat.beq t s then v else look l t d
def mkF (l : List (Nat × Value)) (M : List Nat) (u f : Fr) : Fr := fun t => look l t (bif M.elem t then u t else f t)
/-- The slots hold these values. -/
def Has (f : Fr) : List (Nat × Value) → Prop
  | [] => True
  | (s, v) :: l => f s = v ∧ Has f l
theorem mkF_eq {l : List (Nat × Value)} {M : List Nat} {f f0 : Fr} (ha : Agree M f f0) (hl : Has f l) : f = mkF l M f f0 := by
  funext t
  have hbase : (bif M.elem t then f t else f0 t) = f t := by
    cases he : M.elem t with
    | true => rfl
    | false => simp only [cond_false]; exact (ha t (by simpa using he)).symm
  show f t = look l t (bif M.elem t then f t else f0 t)
  rw [hbase]
  induction l with
  | nil => rfl
  | cons p l ih =>
    obtain ⟨s, v⟩ := p
    obtain ⟨h1, h2⟩ := hl
    simp only [look]
    cases hb : Nat.beq t s with
    | true => rw [Nat.eq_of_beq_eq_true hb]; exact h1
    | false => exact ih h2

/-- A loop: what holds at each round's head, as a function of some datum that goes down. -/
theorem loop_rule {P : Program} {N : Nat} {c : Code} {kx : Nat → Fr → World → Prop} {kr : Fr → World → Prop} {f : Fr} {w : World}
    {γ : Type} (M : List Nat) (hM : writes c = M) (l : γ → List (Nat × Value)) (I : γ → World → Prop) (μ : γ → Nat) (x0 : γ)
    (h0 : Has f (l x0)) (hI : I x0 w)
    (step : ∀ x u w, I x w → W P N c (fun f' w' => ∃ y, μ y < μ x ∧ Has f' (l y) ∧ I y w') kx kr (mkF (l x) M u f) w) : loopK (fun kn f w => W P N c kn kx kr f w) f w := by
  subst hM
  refine ⟨fun n f' w' => Agree (writes c) f' f ∧ ∃ x, μ x = n ∧ Has f' (l x) ∧ I x w', ⟨μ x0, .refl _ _, x0, rfl, h0, hI⟩, ?_⟩
  rintro n f' w' ⟨ha, x, rfl, hl, hI'⟩
  have hs := step x f' w' hI'
  rw [← mkF_eq ha hl] at hs
  refine W_mono c (fun f2 w2 hh => ?_) (fun _ _ _ hh => hh) (fun _ _ hh => hh) (W_agree c ha (fun _ h => h) hs)
  obtain ⟨ha2, y, hlt, hl2, hI2⟩ := hh
  exact ⟨μ y, hlt, ha2, y, rfl, hl2, hI2⟩

attribute [irreducible] loopK

/-- Ways that meet again: what holds behind the first of two pieces. -/
theorem cut_rule {P : Program} {N : Nat} {a b : Code} {kn : Fr → World → Prop} {kx : Nat → Fr → World → Prop} {kr : Fr → World → Prop} {f : Fr} {w : World}
    {γ : Type} (M : List Nat) (hM : writes a = M) (l : γ → List (Nat × Value)) (I : γ → World → Prop)
    (h1 : W P N a (fun f' w' => ∃ y, Has f' (l y) ∧ I y w') kx kr f w)
    (h2 : ∀ x u w, I x w → W P N b kn kx kr (mkF (l x) M u f) w) : W P N (.seq a b) kn kx kr f w := by
  subst hM
  refine W_mono a (fun f2 w2 hh => ?_) (fun _ _ _ hh => hh) (fun _ _ hh => hh) (W_agree a (.refl _ _) (fun _ h => h) h1)
  obtain ⟨ha, y, hl, hI⟩ := hh
  have := h2 y f2 w2 hI
  rwa [← mkF_eq ha hl] at this

/-- What is handed back. -/
def resK (P : Program) (f : Fr) (w : World) (k : Value → World → Prop) : List ResultVar → List Value → Prop
  | [], acc => k (match acc with | [v] => v | vs => .tuple vs.toArray) w
  | .tmp t :: rs, acc => force (f t) fun v => resK P f w k rs (acc ++ [v])
  | .cell p t :: rs, acc => loadK P t (f p) w fun v w' => w' = w ∧ resK P f w k rs (acc ++ [v])

def frame0 (l : List Value) : Fr := fun t => l.getD t undef

end Go.Dk
namespace Go.Dk
def resF (tmps : Array Value) : ResultVar → Sem Value
  | .tmp t => pure (tmps.getD t undef)
  | .cell a t => do loadVar t (← asAddr (tmps.getD a undef))

theorem resK_run {P : Program} {N : Nat} {a : Act} {f : Fr} (hR : R N a f) {post : Value → World → Prop} {w : World} :
    ∀ (rs : List ResultVar) (acc : List Value), resK P f w post rs acc →
      ∃ vs, (rs.mapM (resF a.tmps)).run P w = .ok vs w ∧ post (match acc ++ vs with | [v] => v | vs => .tuple vs.toArray) w := by
  intro rs
  induction rs with
  | nil => intro acc h; exact ⟨[], rfl, by simpa [resK] using h⟩
  | cons r rs ih =>
    intro acc h
    cases r with
    | tmp t =>
      simp only [resK, force_eq] at h
      obtain ⟨vs, h1, h2⟩ := ih _ h
      refine ⟨f t :: vs, ?_, by simpa using h2⟩
      simp only [List.mapM_cons, resF, pure_bind, hR.get]
      rw [Sem.run_bind, h1]
      rfl
    | cell p t =>
      simp only [resK] at h
      unfold loadK at h
      obtain ⟨v, w', hr, rfl, h⟩ := h
      obtain ⟨vs, h1, h2⟩ := ih _ h
      refine ⟨v :: vs, ?_, by simpa using h2⟩
      simp only [List.mapM_cons, resF, hR.get]
      have hr2 : (do loadVar t (← asAddr (f p))).run P w' = .ok v w' := by
        unfold Instr.loadAt at hr
        cases hfp : f p with
        | pointer ad =>
          cases ad with
          | some ad => simpa [hfp, Instr.sureAddr, asAddr] using hr
          | none => simp [hfp, Instr.sureAddr, stuck, bind, Sem.bind] at hr
        | _ => simp [hfp, Instr.sureAddr, stuck, bind, Sem.bind] at hr
      rw [Sem.run_bind, hr2]
      simp only [Result.andThen_ok]
      rw [Sem.run_bind, h1]
      rfl

theorem results_run {P : Program} {N : Nat} {fn : Func} {a : Act} {f : Fr} (hR : R N a f) {post : Value → World → Prop} {w : World} {rs : List ResultVar}
    (hrs : fn.results = rs.toArray) (h : resK P f w post rs []) : ∃ v, (results fn a.tmps).run P w = .ok v w ∧ post v w := by
  obtain ⟨vs, h1, h2⟩ := resK_run hR rs [] h
  refine ⟨_, ?_, h2⟩
  have e : results fn a.tmps = (do let vs ← rs.mapM (resF a.tmps); pure (match vs with | [v] => v | vs => .tuple vs.toArray)) := by
    unfold results
    rw [hrs, List.mapM_toArray]
    simp only [map_eq_pure_bind, bind_assoc, pure_bind]
    congr 1
    funext vs
    match vs with
    | [] => rfl
    | [v] => rfl
    | v :: u :: vs => simp
  rw [e, Sem.run_bind, h1]
  simp

theorem fun_of_W {P : Program} {g : FuncId} {fn : Func} {c : Code} {args : List Value} {w : World} {post : Value → World → Prop} {N : Nat} {rs : List ResultVar}
    (hf : P.funcs[g]? = some fn) (hent : enters P g = true) (hb : fn.body = some c) (hN : fn.ntmps = N) (hrs : fn.results = rs.toArray) (hl : args.length ≤ N)
    (h : W P N c (fun f w => resK P f w post rs []) (fun _ _ _ => False) (fun f w => resK P f w post rs []) (frame0 args) w) : Fun P g args w post := by
  refine ⟨hent, calls_of_wp hf hb ?_⟩
  have hR : R N { tmps := args.toArray ++ Array.replicate (fn.ntmps - args.toArray.size) undef, defers := [] } (frame0 args) := by
    subst hN
    refine ⟨rfl, by simp; omega, fun t => ?_⟩
    simp only [frame0, Array.getD_eq_getD_getElem?, List.getD_eq_getElem?_getD]
    by_cases ht : t < args.length
    · simp [Array.getElem?_append, ht]
    · simp [Array.getElem?_append, ht, Array.getElem?_replicate]
      split <;> simp
  refine Code.wp_mono ?_ (W_sound c _ _ _ _ _ _ hR h)
  intro e a w' hq
  cases e with
  | normal => obtain ⟨f, hR, h⟩ := hq; obtain ⟨v, h1, h2⟩ := results_run hR hrs h; exact ⟨hR.defers, v, h1, v, rfl, h2⟩
  | ret => obtain ⟨f, hR, h⟩ := hq; obtain ⟨v, h1, h2⟩ := results_run hR hrs h; exact ⟨hR.defers, v, h1, v, rfl, h2⟩
  | exit id => obtain ⟨f, hR, h⟩ := hq; exact h.elim
  | goto l => exact hq.elim
  | panic ch => exact hq.elim
  | outgrown => exact hq.elim
end Go.Dk

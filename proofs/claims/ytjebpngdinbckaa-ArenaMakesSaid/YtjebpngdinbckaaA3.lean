import Derived.Test.YtjebpngdinbckaaA2
import Derived.Test.YtjebpngdinbckaaV7
import Derived.ChangeArms
import Derived.DataReads
/- More arguments of laws, opened: slices. -/
namespace Go.Dk
open Go.ChangeShapes Go.WideShapes Go.ChangeAt Go.RowKit Go.ChangeMaps
section
variable {H : Type} {enc0 : TypeId × Value → H} {P : Program} {w : World} {base : Nat} {spare : Nat → Bool} {held : Bool}
theorem cell_spot {w : World} {a : Addr} {v : Value} (h : w.cell? a = some v) : a.spot = none ∧ a.block < w.heap.size := by
  unfold World.cell? at h
  split at h
  · rename_i c e fr hb
    refine ⟨?_, (Array.getElem?_eq_some_iff.1 hb).1⟩
    cases hs : a.spot with
    | none => rfl
    | some x => simp [hs] at h
  · cases h
theorem choose_list {α β : Type} {R : β → α → Prop} : ∀ (l : List β), (∀ b ∈ l, ∃ a, R b a) → ∃ ys : List α, ys.length = l.length ∧ ∀ (i : Nat) (b : β) (a : α), l[i]? = some b → ys[i]? = some a → R b a
  | [], _ => ⟨[], rfl, by intro i b a h; simp at h⟩
  | b :: l, h => by
    obtain ⟨a, ha⟩ := h b (.head _)
    obtain ⟨ys, h1, h2⟩ := choose_list l fun x hx => h x (.tail _ hx)
    refine ⟨a :: ys, by simp [h1], fun i x y hx hy => ?_⟩
    cases i with
    | zero => simp at hx hy; subst hx; subst hy; exact ha
    | succ i => exact h2 i x y (by simpa using hx) (by simpa using hy)
/-- A slice that is read: its elements. -/
theorem arg_list {α : Type} {t e : TypeId} {sz : Nat} {fuel : Nat} {v : Value} {x : DataW H × List MemPlace} (ht : P.underlying t = some (.slice e)) (hc : P.cellsOf e = sz) (hpos : 0 < sz) (enc : α → List Value) (φ : α → Prop) (henc : ∀ a, (enc a).length = sz)
    (hel : ∀ fuel r y, DataW.trod enc0 P w base spare held fuel e r = some y → ∃ a, φ a ∧ r = enc a) (h : DataW.trod enc0 P w base spare held fuel t [v] = some x) :
    ∃ A c, ∃ ys : List α, v = .slice A ys.length c ∧ ys.length ≤ maxLen ∧ (∀ a ∈ ys, φ a) ∧ Sl w (.slice A ys.length c) sz ys.length (flat enc ys) := by
  rcases DataW.trod_slice ht h with ⟨h0, _⟩ | ⟨a, len, cap, elems, rest, n, _, hcs, _, hb, hl, hm, hlen, hel2, _, _⟩
  · simp at h0; subst h0
    exact ⟨none, 0, [], rfl, by simp, by simp, by simp [flat], none, 0, rfl, Nat.le_refl _, .inl rfl⟩
  · simp at hcs; subst hcs
    have each : ∀ i ∈ List.range len, ∃ b : α, φ b ∧ w.cells? base (a.add (i * sz)) sz = some (enc b) := by
      intro i hi
      have hi := List.mem_range.1 hi
      have := hel2 i hi
      rw [hc, List.getElem?_eq_getElem (by omega)] at this
      cases hcell : w.cells? base (a.add (i * sz)) sz with
      | none => rw [hcell] at this; cases this
      | some r =>
        rw [hcell] at this
        obtain ⟨b, hb, rfl⟩ := hel n r _ this
        exact ⟨b, hb, rfl⟩
    obtain ⟨ys, has, hR⟩ := choose_list (List.range len) each
    rw [List.length_range] at has
    have hget : ∀ (i : Nat) (b : α), ys[i]? = some b → φ b ∧ w.cells? base (a.add (i * sz)) sz = some (enc b) := by
      intro i b hib
      have hi := (List.getElem?_eq_some_iff.1 hib).1
      exact hR i i b (List.getElem?_range (by omega)) hib
    have hcellat : ∀ (i : Nat) (b : α) (j : Nat), ys[i]? = some b → j < sz → w.cell? ((a.add (i * sz)).add j) = (enc b)[j]? := by
      intro i b j hib hj
      exact (World.cells?_some (hget i b hib).2).2.2 j hj
    subst has
    refine ⟨some a, cap, ys, rfl, by omega, fun b hb => ?_, ?_⟩
    · obtain ⟨i, hi⟩ := List.mem_iff_getElem?.1 hb
      exact (hget i b hi).1
    · refine ⟨flat_length henc ys, some a, cap, rfl, hl, ?_⟩
      cases ys with
      | nil => exact .inl rfl
      | cons b bs =>
        right
        have h00 := hcellat 0 b 0 rfl hpos
        obtain ⟨v0, hv0⟩ : ∃ v0, (enc b)[0]? = some v0 := ⟨_, List.getElem?_eq_getElem (by rw [henc]; exact hpos)⟩
        rw [hv0, Nat.zero_mul] at h00
        have hadd0 : ∀ y : Addr, y.add 0 = y := fun y => by simp [Addr.add]
        rw [hadd0, hadd0] at h00
        obtain ⟨hsp, hblk⟩ := cell_spot h00
        obtain ⟨g, o, sp⟩ := a
        simp only at hsp hblk
        subst hsp
        refine ⟨g, o, rfl, hblk, fun j hj => ?_⟩
        have hi : j / sz < (b :: bs).length := Nat.div_lt_of_lt_mul (by rw [Nat.mul_comm]; exact hj)
        have hib : (b :: bs)[j / sz]? = some (b :: bs)[j / sz] := List.getElem?_eq_getElem hi
        have hmod : j % sz < sz := Nat.mod_lt _ hpos
        have hc2 := hcellat _ _ _ hib hmod
        have hfc := flat_cell henc hib (j % sz) hmod
        have hjj : j / sz * sz + j % sz = j := by rw [Nat.mul_comm]; exact Nat.div_add_mod j sz
        rw [hjj] at hfc
        rw [hfc, ← hc2]
        congr 1
        have ha : ∀ (o k : Nat), (⟨g, o, none⟩ : Addr).add k = ⟨g, o + k, none⟩ := fun o k => by unfold Addr.add; split <;> simp_all
        rw [ha, ha]
        congr 1
        omega
end
end Go.Dk
namespace Go.Proofs.Ytjebpngdinbckaa
open Go.Dk Go.ChangeShapes Go.WideShapes Go.ChangeAt Go.RowKit Go.ChangeMaps
def okI (n : Int) : Prop := -9223372036854775808 ≤ n ∧ n < 9223372036854775808
theorem flat_one (l : List Int) : flat (fun n => [Value.int .i64 n]) l = intsI l := by
  induction l with
  | nil => rfl
  | cons n l ih =>
    have : flat (fun n => [Value.int .i64 n]) (n :: l) = .int .i64 n :: flat (fun n => [Value.int .i64 n]) l := rfl
    rw [this, ih]; rfl
/-- An ask, as it lies. -/
structure AskV where
  kd : Int
  l : Int
  lo : Int
  hi : Int
  kv : Value
def encA (a : AskV) : List Value := [.int .i64 a.kd, .int .i64 a.l, .int .i64 a.lo, .int .i64 a.hi, a.kv]
theorem encA_length (a : AskV) : (encA a).length = 5 := rfl
/-- Whole numbers that lie in a row. -/
def IntsAt (w : World) (v : Value) (ks : List Int) : Prop := ∃ B c, v = .slice B ks.length c ∧ ks.length ≤ 9223372036854775807 ∧ (∀ k ∈ ks, okI k) ∧ Sl w (.slice B ks.length c) 1 ks.length (intsI ks)
def AskAt (w : World) (a : AskV) : Prop := okI a.kd ∧ okI a.l ∧ okI a.lo ∧ okI a.hi ∧ ∃ ks, IntsAt w a.kv ks
section
variable {H : Type} {enc : TypeId × Value → H} {w : World} {base b : Nat} {spare : Nat → Bool} {held : Bool}
theorem int_at {fuel : Nat} {r : List Value} {x : DataW H × List MemPlace} (h : DataW.trod enc Try.prog w base spare held fuel 3 r = some x) : ∃ n, okI n ∧ r = [.int .i64 n] := by
  obtain ⟨m, hc, rfl, hw⟩ := DataW.trod_int Try.underlying3 h
  simp [Lit.wf, IntKind.min, IntKind.max, IntKind.signed, IntKind.bits] at hw
  exact ⟨m, ⟨by omega, by omega⟩, hc⟩
set_option maxRecDepth 100000 in
theorem cells3 : Try.prog.cellsOf 3 = 1 := by kernel_rfl
theorem cells32 : Try.prog.cellsOf 32 = 1 := by kernel_rfl
theorem cells66 : Try.prog.cellsOf 66 = 5 := by kernel_rfl
set_option maxRecDepth 100000 in
theorem ints_at {fuel : Nat} {v : Value} {x : DataW H × List MemPlace} (h : DataW.trod enc Try.prog w base spare held fuel 32 [v] = some x) : ∃ ks, IntsAt w v ks := by
  obtain ⟨A, c, ks, hv, hl, hok, hs⟩ := arg_list Try.underlying32 cells3 (by decide) (fun n : Int => [Value.int .i64 n]) okI (fun _ => rfl) (fun fuel r y hy => int_at hy) h
  rw [flat_one] at hs
  exact ⟨ks, A, c, hv, hl, hok, hs⟩
set_option maxRecDepth 100000 in
theorem ask_at {fuel : Nat} {r : List Value} {x : DataW H × List MemPlace} (h : DataW.trod enc Try.prog w base spare held fuel 66 r = some x) : ∃ a, AskAt w a ∧ r = encA a := by
  obtain ⟨xs, n, _, _, hl, hlen, hf⟩ := DataW.trod_struct Try.underlying66 h
  rw [cells66] at hl
  have f0 : DataW.trod enc Try.prog w base spare held n 3 ((r.drop 0).take (Try.prog.cellsOf 3)) = xs[0]? := hf 0 _ rfl
  rw [cells3] at f0
  have f1 : DataW.trod enc Try.prog w base spare held n 3 ((r.drop 1).take (Try.prog.cellsOf 3)) = xs[1]? := hf 1 _ rfl
  rw [cells3] at f1
  have f2 : DataW.trod enc Try.prog w base spare held n 3 ((r.drop 2).take (Try.prog.cellsOf 3)) = xs[2]? := hf 2 _ rfl
  rw [cells3] at f2
  have f3 : DataW.trod enc Try.prog w base spare held n 3 ((r.drop 3).take (Try.prog.cellsOf 3)) = xs[3]? := hf 3 _ rfl
  rw [cells3] at f3
  have f4 : DataW.trod enc Try.prog w base spare held n 32 ((r.drop 4).take (Try.prog.cellsOf 32)) = xs[4]? := hf 4 _ rfl
  rw [cells32] at f4
  match r, hl, xs, hlen, f0, f1, f2, f3, f4 with
  | [c0, c1, c2, c3, c4], _, [y0, y1, y2, y3, y4], _, f0, f1, f2, f3, f4 =>
    obtain ⟨n0, k0, e0⟩ := int_at f0
    obtain ⟨n1, k1, e1⟩ := int_at f1
    obtain ⟨n2, k2, e2⟩ := int_at f2
    obtain ⟨n3, k3, e3⟩ := int_at f3
    obtain ⟨ks, hk⟩ := ints_at f4
    simp at e0 e1 e2 e3
    subst e0; subst e1; subst e2; subst e3
    exact ⟨⟨n0, n1, n2, n3, c4⟩, ⟨k0, k1, k2, k3, ks, hk⟩, rfl⟩
/-- Asks that lie in a row. -/
def AsksAt (w : World) (v : Value) (l : List AskV) : Prop := ∃ B c, v = .slice B l.length c ∧ l.length ≤ 9223372036854775807 ∧ (∀ a ∈ l, AskAt w a) ∧ Sl w (.slice B l.length c) 5 l.length (flat encA l)
set_option maxRecDepth 100000 in
theorem asks_at {fuel : Nat} {v : Value} {x : DataW H × List MemPlace} (h : DataW.trod enc Try.prog w base spare held fuel 58 [v] = some x) : ∃ l, AsksAt w v l := by
  obtain ⟨A, c, l, hv, hl, hok, hs⟩ := arg_list Try.underlying58 cells66 (by decide) encA (AskAt w) encA_length (fun fuel r y hy => ask_at hy) h
  exact ⟨l, A, c, hv, hl, hok, hs⟩
set_option maxRecDepth 100000 in
theorem arg_ints {v : Value} {d : DataW H} {ps : List MemPlace} (hval : Value.okWide Try.prog w .any b 32 v) (h : DataW.Trod enc Try.prog w base spare held 32 v d ps) : ∃ ks, IntsAt w v ks := by
  obtain ⟨a, l, c, rfl⟩ := okWide_slice Try.underlying32 hval
  obtain ⟨fuel, hf⟩ := h
  exact ints_at hf
set_option maxRecDepth 100000 in
theorem arg_asks {v : Value} {d : DataW H} {ps : List MemPlace} (hval : Value.okWide Try.prog w .any b 58 v) (h : DataW.Trod enc Try.prog w base spare held 58 v d ps) : ∃ l, AsksAt w v l := by
  obtain ⟨a, l, c, rfl⟩ := okWide_slice Try.underlying58 hval
  obtain ⟨fuel, hf⟩ := h
  exact asks_at hf
end
end Go.Proofs.Ytjebpngdinbckaa

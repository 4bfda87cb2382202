import Derived.Test.YtjebpngdinbckaaPart3
import Derived.ChangeArms
import Derived.DataReads
/- Lemmas, part 4: what the proof of the row uses. -/
section
/- Arenas: how they lie in memory. -/
namespace Go.Proofs.Ytjebpngdinbckaa
open Go.Dk
attribute [local irreducible] IntKind.wrap

/-! ### Nodes -/
def k3 (a b c : Int) : Value := .agg #[.int .i64 a, .int .i64 b, .int .i64 c]
theorem zero202 : zeroT Try.prog 202 = some (k3 0 0 0) := by kernel_rfl
theorem agg202 : aggT Try.prog 202 = some true := by kernel_rfl
theorem size202 : sizeT Try.prog 202 = some 3 := by kernel_rfl
theorem agg197 : aggT Try.prog 197 = some false := by kernel_rfl
theorem size197 : sizeT Try.prog 197 = some 1 := by kernel_rfl
theorem agg196 : aggT Try.prog 196 = some false := by kernel_rfl
theorem size199 : sizeT Try.prog 199 = some 3 := by kernel_rfl
theorem agg199 : aggT Try.prog 199 = some true := by kernel_rfl
theorem zero3 : zeroT Try.prog 3 = some (.int .i64 0) := by kernel_rfl
theorem T197 : SlT Try.prog 197 202 (k3 0 0 0) 3 24 := ⟨Try.underlying197, by kernel_rfl, rfl, by decide⟩
theorem run_eq202 (a b c a' b' c' : Int) (w : World) : (Op.equal 202 (k3 a b c) (k3 a' b' c')).run Try.prog w = .ok (a == a' && (b == b' && c == c')) w := by
  have hr : ∀ d', (Op.equalIn (d' + 2) 202 (k3 a b c) (k3 a' b' c')).run Try.prog w = .ok (a == a' && (b == b' && c == c')) w := by
    intro d'
    unfold k3
    rw [Op.equalIn]
    have i0 := run_eqInt Try.underlying3 d' a a'
    have i1 := run_eqInt Try.underlying3 d' b b'
    have i2 := run_eqInt Try.underlying3 d' c c'
    have p0 : ∀ (x y z : Int) w, (Go.part 3 #[.int .i64 x, .int .i64 y, .int .i64 z] 0).run Try.prog w = .ok (.int .i64 x) w := fun x y z w => run_part agg3 rfl w
    have p1 : ∀ (x y z : Int) w, (Go.part 3 #[.int .i64 x, .int .i64 y, .int .i64 z] 1).run Try.prog w = .ok (.int .i64 y) w := fun x y z w => run_part agg3 rfl w
    have p2 : ∀ (x y z : Int) w, (Go.part 3 #[.int .i64 x, .int .i64 y, .int .i64 z] 2).run Try.prog w = .ok (.int .i64 z) w := fun x y z w => run_part agg3 rfl w
    generalize (a == a') = b0 at *
    generalize (b == b') = b1 at *
    generalize (c == c') = b2 at *
    have hst : Try.prog.stoodInHeld 202 = false := by kernel_rfl
    simp only [Sem.run_bind, run_underlying Try.underlying202, Result.andThen_ok, Go.Dk.run_sizeOf size202, run_program, hst]
    cases b0 <;> cases b1 <;> cases b2 <;> simp [p0, p1, p2, i0, i1, i2]
  exact hr 9998
theorem k3_inj {a b c a' b' c' : Int} : k3 a b c = k3 a' b' c' ↔ a = a' ∧ b = b' ∧ c = c' := by simp [k3]
def isK3 (v : Value) : Prop := ∃ a b c, v = k3 a b c
theorem check202 (a b c : Int) (em : Bool) (w : World) : (Instr.checkKey em 10000 202 (k3 a b c)).run Try.prog w = .ok () w := by kernel_rfl
theorem asking202 (w : World) (a b c : Int) : ∀ (es : List MapEntry) (i : Nat), (∀ e ∈ es, isK3 e.key) →
    ((Instr.findAsking 202 (k3 a b c) es i).run Try.prog w = .ok none w ∧ ∀ e ∈ es, e.key ≠ k3 a b c) ∨ ∃ j e, (Instr.findAsking 202 (k3 a b c) es i).run Try.prog w = .ok (some (i + j, e.val)) w ∧ es[j]? = some e ∧ e.key = k3 a b c
  | [], i, _ => .inl ⟨by simp [Instr.findAsking], by simp⟩
  | e :: es, i, h => by
    obtain ⟨a', b', c', he⟩ := h e (.head _)
    have hq := run_eq202 a b c a' b' c' w
    by_cases hk : a = a' ∧ b = b' ∧ c = c'
    · obtain ⟨rfl, rfl, rfl⟩ := hk
      exact .inr ⟨0, e, by simp [Instr.findAsking, he, hq], rfl, he⟩
    · have hf : (a == a' && (b == b' && c == c')) = false := by
        rw [Bool.eq_false_iff]; intro hh; simp at hh; exact hk hh
      rw [hf] at hq
      have hne : e.key ≠ k3 a b c := fun hh => hk (by rw [he, k3_inj] at hh; exact ⟨hh.1.symm, hh.2.1.symm, hh.2.2.symm⟩)
      rcases asking202 w a b c es (i + 1) (fun x hx => h x (.tail _ hx)) with ⟨h1, h2⟩ | ⟨j, e', h1, h2, h3⟩
      · refine .inl ⟨by simp [Instr.findAsking, he, hq, h1], fun x hx => ?_⟩
        rcases List.mem_cons.1 hx with rfl | hx
        · exact hne
        · exact h2 x hx
      · exact .inr ⟨j + 1, e', by simp [Instr.findAsking, he, hq, h1]; omega, by simpa using h2, h3⟩
theorem KL202 : KL Try.prog 202 isK3 where
  check := by rintro w em _ ⟨a, b, c, rfl⟩; exact check202 a b c em w
  find := by
    rintro w _ ⟨a, b, c, rfl⟩ es he
    cases es with
    | nil => exact .inl ⟨by simp [Instr.findKey, run_underlying Try.underlying202, Instr.findNow], by simp⟩
    | cons e es =>
      have hn : ∀ fs, Instr.findNow (.struct fs) (k3 a b c) (e :: es) 0 = none := fun fs => rfl
      have := asking202 w a b c (e :: es) 0 he
      simp only [Nat.zero_add] at this
      simp only [Instr.findKey, Sem.run_bind, run_underlying Try.underlying202, Result.andThen_ok, hn]
      exact this
  stays := by
    rintro w _ ⟨a, b, c, rfl⟩
    have : Instr.sameBits 10000 (k3 a b c) (k3 a b c) = true := by
      show (_ && _) = true
      simp [Instr.sameBits]
    simp [Instr.keyThatStays, this]
def kaN (n : Nd) : Value := k3 n.l n.lo n.hi
def vbN (i : Nat) : Value := .int .i64 (i : Int)
theorem W196 : MapW Try.prog 196 202 3 kaN vbN (.int .i64 0) where
  und := Try.underlying196
  key := KL202.mono fun _ ⟨n, h⟩ => ⟨_, _, _, h⟩
  inj := by
    rintro ⟨l, lo, hi⟩ ⟨l', lo', hi'⟩ h
    obtain ⟨h1, h2, h3⟩ := k3_inj.1 h
    simp only at h1 h2 h3
    obtain rfl := Int.ofNat_inj.1 h1
    obtain rfl := Int.ofNat_inj.1 h2
    obtain rfl := Int.ofNat_inj.1 h3
    rfl
  zero := zero3

/-! ### How an arena lies -/
abbrev Slot := Sum Nd (Int × Int)
def encS : Slot → List Value
  | .inl n => [.int .i64 n.l, .int .i64 n.lo, .int .i64 n.hi]
  | .inr (x, y) => [.int .i64 (-1), .int .i64 x, .int .i64 y]
theorem encS_length (s : Slot) : (encS s).length = 3 := by cases s <;> rfl
theorem encS_one (s : Slot) : ∀ v ∈ encS s, v.oneCell' = true := by
  intro v hv
  cases s <;> simp [encS] at hv <;> rcases hv with rfl | rfl | rfl <;> rfl
def ndS : Slot → Option Nd
  | .inl n => some n
  | .inr _ => none
def ars (N : List Slot) : Ar := N.map ndS
theorem ars_length (N : List Slot) : (ars N).length = N.length := by simp [ars]
theorem slot_ars {N : List Slot} {i : Nat} {s : Slot} (h : N[i]? = some s) : slot (ars N) i = ndS s := by
  unfold slot ars
  rw [List.getD_eq_getElem?_getD, List.getElem?_map, h]; rfl
theorem ars_set (N : List Slot) (i : Nat) (s : Slot) : ars (N.set i s) = (ars N).set i (ndS s) := by simp [ars, List.map_set]
theorem ars_snoc (N : List Slot) (s : Slot) : ars (N ++ [s]) = ars N ++ [ndS s] := by simp [ars]
def nodesR (sv : Value) (A : Ar) : Res :=
  ⟨fun g => sv.ownBlock = some g, fun w => ∃ N : List Slot, ars N = A ∧ (own 202 3 sv N.length (flat encS N)).ok w, fun w w' h ⟨N, h1, h2⟩ => ⟨N, h1, (own 202 3 sv N.length (flat encS N)).stable w w' h h2⟩⟩
def idsR (r : Nat) (A : Ar) : Res :=
  ⟨fun g => g = r, fun w => ∃ l, IdsOk l A ∧ (mapR kaN vbN r l).ok w, fun w w' h ⟨l, h1, h2⟩ => ⟨l, h1, (mapR kaN vbN r l).stable w w' h h2⟩⟩
def arP (g r : Nat) (sv : Value) (room : Int) (A : Ar) : List Res := [blk g 199 #[.int .i64 room, sv, .map (some r)], nodesR sv A, idsR r A]
def arR (g r : Nat) (sv : Value) (room : Int) (A : Ar) : Res := seps (arP g r sv room A)
/-- What an arena keeps to, with its room. -/
structure ArOk (room : Int) (A : Ar) : Prop where
  inv : ArInv A
  len : (A.length : Int) ≤ room
  room : room ≤ 20000

def arV (B : Option Addr) (n c : Nat) (room : Int) (r : Nat) : Array Value := #[.int .i64 room, .slice B n c, .map (some r)]
/-- An arena opened, to be read. -/
theorem arR_open {g r : Nat} {sv : Value} {room : Int} {A : Ar} {w : World} (h : (arR g r sv room A).ok w) :
    ∃ N B c l, ars N = A ∧ sv = .slice B N.length c ∧ IdsOk l A ∧ (akeys l).Nodup ∧
      Hp w (fun _ => False) w [] [blk g 199 (arV B N.length c room r), own 202 3 (.slice B N.length c) N.length (flat encS N), mapR kaN vbN r l] := by
  obtain ⟨h1, h2, h3⟩ := h
  obtain ⟨N, hN, hown⟩ := h1 (nodesR sv A) (by simp [arP])
  obtain ⟨l, hl, hmap⟩ := h1 (idsR r A) (by simp [arP])
  obtain ⟨B, c, rfl, hc⟩ := own_form hown
  have hnd : (akeys l).Nodup := by
    obtain ⟨es, clock, _, hs, he⟩ := hmap
    exact mapR_keys W196.inj hs he
  refine ⟨N, B, c, l, hN, rfl, hl, hnd, Hp.start w _ _ ?_ ?_⟩
  · intro q hq
    simp only [List.mem_cons, List.not_mem_nil, or_false] at hq
    rcases hq with rfl | rfl | rfl
    · exact h1 _ (by simp [arP, arV])
    · exact hown
    · exact hmap
  · intro q hq x hx
    simp only [List.mem_cons, List.not_mem_nil, or_false] at hq
    rcases hq with rfl | rfl | rfl
    · exact h2 _ (by simp [arP]; exact .inl rfl) x hx
    · exact h2 (nodesR (.slice B N.length c) A) (by simp [arP]) x hx
    · exact h2 (idsR r A) (by simp [arP]) x hx
theorem fa199_0 (g : Nat) (w : World) : (Instr.fieldAt 199 (.pointer (some ⟨g, 0, none⟩)) 0).run Try.prog w = .ok (.pointer (some ⟨g, 0, none⟩)) w := by kernel_rfl
theorem fa199_1 (g : Nat) (w : World) : (Instr.fieldAt 199 (.pointer (some ⟨g, 0, none⟩)) 1).run Try.prog w = .ok (.pointer (some ⟨g, 1, none⟩)) w := by kernel_rfl
theorem fa199_2 (g : Nat) (w : World) : (Instr.fieldAt 199 (.pointer (some ⟨g, 0, none⟩)) 2).run Try.prog w = .ok (.pointer (some ⟨g, 2, none⟩)) w := by kernel_rfl
theorem fa202_0 (g o : Nat) (w : World) : (Instr.fieldAt 202 (.pointer (some ⟨g, o, none⟩)) 0).run Try.prog w = .ok (.pointer (some ⟨g, o, none⟩)) w := by kernel_rfl
theorem fa202_1 (g o : Nat) (w : World) : (Instr.fieldAt 202 (.pointer (some ⟨g, o, none⟩)) 1).run Try.prog w = .ok (.pointer (some ⟨g, o + 1, none⟩)) w := by kernel_rfl
theorem fa202_2 (g o : Nat) (w : World) : (Instr.fieldAt 202 (.pointer (some ⟨g, o, none⟩)) 2).run Try.prog w = .ok (.pointer (some ⟨g, o + 2, none⟩)) w := by kernel_rfl
def thereA (A : Ar) (id : Int) : Bool := decide (2 ≤ id) && (slot A (id - 2).toNat).isSome
theorem sub2 {k : Nat} (hk : k < 9223372036854775806) : IntKind.i64.wrap ((k : Int) + 2 - 2) = (k : Int) := by rw [wrap_i64_in (by omega) (by omega)]; omega

theorem ent168 : enters Try.prog 168 = true := by kernel_rfl
theorem c168_b {g r : Nat} {sv : Value} {room : Int} {A : Ar} (id : Int) (hid : id < 2) (w : World) (h : (arR g r sv room A).ok w) : Fun Try.prog 168 [.pointer (some ⟨g, 0, none⟩), .int .i64 id] w fun v w' => v = .bool false ∧ Same w w' := by
  refine fun_of_W (N := 29) Try.func168 ent168 rfl rfl rfl (by simp) ?_
  have H := Hp.start0 w
  iterate 9 refine cond_no (decide_eq_false (by omega)) ?_
  iterate 11 refine cond_no rfl ?_
  exact ⟨rfl, H.keeps⟩
theorem c168_a {g r : Nat} {sv : Value} {room : Int} {A : Ar} (k : Nat) (hk : k < 9223372036854775806) (w : World) (h : (arR g r sv room A).ok w) : Fun Try.prog 168 [.pointer (some ⟨g, 0, none⟩), .int .i64 ((k : Int) + 2)] w fun v w' => v = .bool (slot A k).isSome ∧ Same w w' := by
  refine fun_of_W (N := 29) Try.func168 ent168 rfl rfl rfl (by simp) ?_
  obtain ⟨N, B, c, l, rfl, rfl, hl, hnd, H⟩ := arR_open h
  have hw := sub2 hk
  iterate 5 refine cond_yes (decide_eq_true (by omega)) ?_
  refine fieldAddr_by (fa199_1 _) ?_
  refine cond_yes (decide_eq_true (by omega)) ?_
  refine ld_blk (H.ro 0 rfl) agg197 rfl ?_
  refine cond_yes (decide_eq_true (by omega)) ?_
  refine len_sl Try.underlying197 ?_
  iterate 2 refine cond_yes (decide_eq_true (by omega)) ?_
  refine cond_dec (fun h13 => ?_) (fun h13 => ?_)
  · refine cond_yes (decide_eq_true (by assumption)) ?_
    refine cond_yes (decide_eq_true (by assumption)) ?_
    refine fieldAddr_by (fa199_1 _) ?_
    refine cond_yes (decide_eq_true (by assumption)) ?_
    refine ld_blk (H.ro 0 rfl) agg197 rfl ?_
    iterate 3 refine cond_yes (decide_eq_true (by assumption)) ?_
    rw [hw] at h13
    have hk' : k < N.length := by omega
    obtain ⟨g0, rfl⟩ := own_base (H.ro 1 rfl) (by omega)
    obtain ⟨s, hs⟩ : ∃ s, N[k]? = some s := ⟨_, List.getElem?_eq_getElem hk'⟩
    refine idxAddr_sl Try.underlying197 size202 k hw hk' (o' := k * 3) (by omega) ?_
    rw [slot_ars hs]
    cases s with
    | inl n =>
      refine cond_yes (decide_eq_true (by omega)) ?_
      refine fieldAddr_by (fa202_0 _ _) ?_
      refine cond_yes (decide_eq_true (by omega)) ?_
      refine ld_fld (H.ro 1 rfl) encS_length agg3 k 0 rfl hs rfl ?_
      iterate 2 refine cond_yes (decide_eq_true (by omega)) ?_
      exact ⟨rfl, H.keeps⟩
    | inr p =>
      refine cond_yes (decide_eq_true (by omega)) ?_
      refine fieldAddr_by (fa202_0 _ _) ?_
      refine cond_yes (decide_eq_true (by omega)) ?_
      refine ld_fld (H.ro 1 rfl) encS_length agg3 k 0 rfl hs rfl ?_
      iterate 2 refine cond_yes (decide_eq_true (by omega)) ?_
      exact ⟨rfl, H.keeps⟩
  · refine cond_no (decide_eq_false (by assumption)) ?_
    iterate 9 refine cond_no (decide_eq_false (by assumption)) ?_
    refine ⟨congrArg Value.bool ?_, H.keeps⟩
    rw [hw] at h13
    rw [slot_none (by rw [ars_length]; omega)]; rfl
end Go.Proofs.Ytjebpngdinbckaa
end

section
/- Arenas: the functions of package arena. -/
namespace Go.Proofs.Ytjebpngdinbckaa
open Go.Dk
attribute [local irreducible] IntKind.wrap

theorem c168 {g r : Nat} {sv : Value} {room : Int} {A : Ar} (id : Int) (hid : id < 9223372036854775808) (w : World) (h : (arR g r sv room A).ok w) : Fun Try.prog 168 [.pointer (some ⟨g, 0, none⟩), .int .i64 id] w fun v w' => v = .bool (thereA A id) ∧ Same w w' := by
  by_cases h2 : id < 2
  · have e : thereA A id = false := by unfold thereA; rw [decide_eq_false (by omega)]; rfl
    rw [e]; exact c168_b id h2 w h
  · obtain ⟨k, rfl⟩ : ∃ k : Nat, id = (k : Int) + 2 := ⟨(id - 2).toNat, by omega⟩
    have e : thereA A ((k : Int) + 2) = (slot A k).isSome := by
      unfold thereA; rw [decide_eq_true (by omega), show ((k : Int) + 2 - 2).toNat = k by omega]; rfl
    rw [e]; exact c168_a k (by omega) w h
theorem bin_eql59 {xo yo : Operand} {w : World} {kk : Value → World → Prop} {g : Nat} (h : kk (.bool false) w) : binK Try.prog .eql 59 xo yo (.pointer (some ⟨g, 0, none⟩)) (.pointer none) w kk :=
  bin_by (fun w => by rw [eqGuard_at_pointer]; kernel_rfl) h
theorem bin_eql59z {xo yo : Operand} {w : World} {kk : Value → World → Prop} (h : kk (.bool true) w) : binK Try.prog .eql 59 xo yo (.pointer none) (.pointer none) w kk :=
  bin_by (fun w => by rw [eqGuard_at_pointer]; kernel_rfl) h
theorem ent166 : enters Try.prog 166 = true := by kernel_rfl
theorem c166_b {g r : Nat} {sv : Value} {room : Int} {A : Ar} (id : Int) (hid : id < 2) (w : World) (h : (arR g r sv room A).ok w) : Fun Try.prog 166 [.pointer (some ⟨g, 0, none⟩), .int .i64 id] w fun v w' => v = .int .i64 (lvlA A id) ∧ Same w w' := by
  refine fun_of_W (N := 25) Try.func166 ent166 rfl rfl rfl (by simp) ?_
  have H := Hp.start0 w
  unfold lvlA
  by_cases h0 : id = 0 ∨ id = 1
  · rw [if_pos h0]
    refine cond_beq (fun h1 => ?_) (fun h1 => ?_)
    · refine cond_yes (beq_iff_eq.2 (by assumption)) ?_
      refine cond_yes (beq_iff_eq.2 (by assumption)) ?_
      refine cond_yes rfl ?_
      exact ⟨rfl, H.keeps⟩
    · refine cond_no (beq_eq_false_iff_ne.2 (by assumption)) ?_
      refine cond_no (beq_eq_false_iff_ne.2 (by assumption)) ?_
      refine cond_yes (beq_iff_eq.2 (by omega)) ?_
      exact ⟨rfl, H.keeps⟩
  · rw [if_neg h0, if_neg (by omega)]
    iterate 4 refine cond_no (beq_eq_false_iff_ne.2 (by omega)) ?_
    refine call_fn (c168_b _ hid _ h) ?_
    rintro _ w5 ⟨rfl, hk⟩
    replace H := H.same hk
    clear hk
    refine cond_no rfl ?_
    exact ⟨rfl, H.keeps⟩
theorem c166_a {g r : Nat} {sv : Value} {room : Int} {A : Ar} (k : Nat) (hk : k < 9223372036854775806) (w : World) (h : (arR g r sv room A).ok w) : Fun Try.prog 166 [.pointer (some ⟨g, 0, none⟩), .int .i64 ((k : Int) + 2)] w fun v w' => v = .int .i64 (lvlA A ((k : Int) + 2)) ∧ Same w w' := by
  refine fun_of_W (N := 25) Try.func166 ent166 rfl rfl rfl (by simp) ?_
  have h' := h
  obtain ⟨N, B, c, l, rfl, rfl, hl, hnd, H⟩ := arR_open h
  have hw := sub2 hk
  cases hs : slot (ars N) k with
  | none =>
    have e : lvlA (ars N) ((k : Int) + 2) = -1 := by
      unfold lvlA; rw [if_neg (by omega), if_pos (by omega), show ((k : Int) + 2 - 2).toNat = k by omega, hs]
    rw [e]
    iterate 4 refine cond_no rfl ?_
    refine call_fn (c168_a k hk _ h') ?_
    rintro _ w5 ⟨rfl, hk⟩
    replace H := H.same hk
    clear hk
    rw [hs]
    refine cond_no rfl ?_
    exact ⟨rfl, H.keeps⟩
  | some n =>
    have hk' := slot_lt hs
    rw [ars_length] at hk'
    obtain ⟨g0, rfl⟩ := own_base (H.ro 1 rfl) (by omega)
    obtain ⟨s, hs'⟩ : ∃ s, N[k]? = some s := ⟨_, List.getElem?_eq_getElem hk'⟩
    have hs2 := slot_ars hs'
    rw [hs] at hs2
    cases s with
    | inr p => cases hs2
    | inl n' =>
      cases hs2
      rw [lvlA_slot hs]
      iterate 4 refine cond_no rfl ?_
      refine call_fn (c168_a k hk _ h') ?_
      rintro _ w5 ⟨rfl, hk⟩
      replace H := H.same hk
      clear hk
      rw [hs]
      refine cond_yes rfl ?_
      refine fieldAddr_by (fa199_1 _) ?_
      refine ld_blk (H.ro 0 rfl) agg197 rfl ?_
      refine idxAddr_sl Try.underlying197 size202 k hw hk' (o' := k * 3) (by omega) ?_
      refine fieldAddr_by (fa202_0 _ _) ?_
      refine ld_fld (H.ro 1 rfl) encS_length agg3 k 0 rfl hs' rfl ?_
      exact ⟨rfl, H.keeps⟩
theorem c166 {g r : Nat} {sv : Value} {room : Int} {A : Ar} (id : Int) (hid : id < 9223372036854775808) (w : World) (h : (arR g r sv room A).ok w) : Fun Try.prog 166 [.pointer (some ⟨g, 0, none⟩), .int .i64 id] w fun v w' => v = .int .i64 (lvlA A id) ∧ Same w w' := by
  by_cases h2 : id < 2
  · exact c166_b id h2 w h
  · obtain ⟨k, rfl⟩ : ∃ k : Nat, id = (k : Int) + 2 := ⟨(id - 2).toNat, by omega⟩
    exact c166_a k (by omega) w h
theorem ent70 : enters Try.prog 70 = true := by kernel_rfl
theorem c70 {g r : Nat} {sv : Value} {room : Int} {A : Ar} (w : World) (h : (arR g r sv room A).ok w) : Fun Try.prog 70 [.pointer (some ⟨g, 0, none⟩)] w fun v w' => v = .int .i64 (liveA A : Int) ∧ Same w w' := by
  refine fun_of_W (N := 10) Try.func70 ent70 rfl rfl rfl (by simp) ?_
  obtain ⟨N, B, c, l, rfl, rfl, hl, hnd, H⟩ := arR_open h
  rw [← hl.len]
  refine bin_eql59 ?_
  refine cond_no rfl ?_
  refine fieldAddr_by (fa199_2 _) ?_
  refine ld_blk (H.ro 0 rfl) agg196 rfl ?_
  refine lenMap_at (H.ro 2 rfl) W196 ?_
  exact ⟨rfl, H.keeps⟩
theorem c70_nil (w : World) : Fun Try.prog 70 [.pointer none] w fun v w' => v = .int .i64 0 ∧ Same w w' := by
  refine fun_of_W (N := 10) Try.func70 ent70 rfl rfl rfl (by simp) ?_
  have H := Hp.start0 w
  refine bin_eql59z ?_
  refine cond_yes rfl ?_
  exact ⟨rfl, H.keeps⟩
/-- What Node answers. -/
def nodeV (A : Ar) (id : Int) : Value :=
  match (if 2 ≤ id then slot A (id - 2).toNat else none) with
  | some n => .tuple #[.int .i64 n.l, .int .i64 n.lo, .int .i64 n.hi, .bool true]
  | none => .tuple #[.int .i64 0, .int .i64 0, .int .i64 0, .bool false]
theorem ent72 : enters Try.prog 72 = true := by kernel_rfl
theorem c72_nil (id : Int) (w : World) : Fun Try.prog 72 [.pointer none, .int .i64 id] w fun v w' => v = .tuple #[.int .i64 0, .int .i64 0, .int .i64 0, .bool false] ∧ Same w w' := by
  refine fun_of_W (N := 31) Try.func72 ent72 rfl rfl rfl (by simp) ?_
  have H := Hp.start0 w
  refine bin_eql59z ?_
  iterate 6 refine cond_yes rfl ?_
  exact ⟨rfl, H.keeps⟩
theorem c72_b {g r : Nat} {sv : Value} {room : Int} {A : Ar} (id : Int) (hid : id < 9223372036854775808) (ht : thereA A id = false) (w : World) (h : (arR g r sv room A).ok w) : Fun Try.prog 72 [.pointer (some ⟨g, 0, none⟩), .int .i64 id] w fun v w' => v = .tuple #[.int .i64 0, .int .i64 0, .int .i64 0, .bool false] ∧ Same w w' := by
  refine fun_of_W (N := 31) Try.func72 ent72 rfl rfl rfl (by simp) ?_
  have H := Hp.start0 w
  refine bin_eql59 ?_
  iterate 3 refine cond_no rfl ?_
  refine call_fn (c168 id hid _ h) ?_
  rintro _ w5 ⟨rfl, hk⟩
  replace H := H.same hk
  clear hk
  rw [ht]
  iterate 2 refine cond_no rfl ?_
  refine cond_yes rfl ?_
  exact ⟨rfl, H.keeps⟩
theorem c72_a {g r : Nat} {sv : Value} {room : Int} {A : Ar} (k : Nat) (hk : k < 9223372036854775806) (n : Nd) (hs : slot A k = some n) (w : World) (h : (arR g r sv room A).ok w) :
    Fun Try.prog 72 [.pointer (some ⟨g, 0, none⟩), .int .i64 ((k : Int) + 2)] w fun v w' => v = .tuple #[.int .i64 n.l, .int .i64 n.lo, .int .i64 n.hi, .bool true] ∧ Same w w' := by
  refine fun_of_W (N := 31) Try.func72 ent72 rfl rfl rfl (by simp) ?_
  have h' := h
  obtain ⟨N, B, c, l, rfl, rfl, hl, hnd, H⟩ := arR_open h
  have hw := sub2 hk
  have hk' := slot_lt hs
  rw [ars_length] at hk'
  obtain ⟨g0, rfl⟩ := own_base (H.ro 1 rfl) (by omega)
  obtain ⟨s, hs'⟩ : ∃ s, N[k]? = some s := ⟨_, List.getElem?_eq_getElem hk'⟩
  have hs2 := slot_ars hs'
  rw [hs] at hs2
  cases s with
  | inr p => cases hs2
  | inl n' =>
    cases hs2
    refine bin_eql59 ?_
    iterate 3 refine cond_no rfl ?_
    refine call_fn (c168_a k hk _ h') ?_
    rintro _ w5 ⟨rfl, hk⟩
    replace H := H.same hk
    clear hk
    rw [hs]
    iterate 3 refine cond_no rfl ?_
    refine fieldAddr_by (fa199_1 _) ?_
    refine ld_blk (H.ro 0 rfl) agg197 rfl ?_
    refine idxAddr_sl Try.underlying197 size202 k hw hk' (o' := k * 3) (by omega) ?_
    refine ld_agg (H.ro 1 rfl) encS_length agg202 size202 k rfl hs' ?_
    refine H.alloc 202 zero202 rfl ?_
    clear H
    intro g13 w13 H
    refine H.storeAll 0 rfl size202 rfl (fun v hv => encS_one (.inl n) v hv) ?_
    clear H
    intro w14 H
    refine H.draw fol (by kernel_rfl) ?_
    clear H
    intro w1 H
    refine quiet _ (fun w H => fieldAddr_by (fa202_0 _ _) ⟨rfl, rfl⟩) ?_
    refine quiet _ (fun w H => H.load 0 rfl agg3 rfl ⟨rfl, rfl⟩) ?_
    refine quiet _ (fun w H => fieldAddr_by (fa202_1 _ _) ⟨rfl, rfl⟩) ?_
    refine quiet _ (fun w H => H.load 0 rfl agg3 rfl ⟨rfl, rfl⟩) ?_
    refine quiet _ (fun w H => fieldAddr_by (fa202_2 _ _) ⟨rfl, rfl⟩) ?_
    refine quiet _ (fun w H => H.load 0 rfl agg3 rfl ⟨rfl, rfl⟩) ?_
    exact ⟨rfl, H.keeps⟩
theorem ent64 : enters Try.prog 64 = true := by kernel_rfl
theorem c64_b (n : Int) (hn : n < 0 ∨ 20000 < n) (w : World) : Fun Try.prog 64 [.int .i64 n] w fun v w' => v = .tuple #[.pointer none, .int .i64 1] ∧ Same w w' := by
  refine fun_of_W (N := 14) Try.func64 ent64 rfl rfl rfl (by simp) ?_
  have H := Hp.start0 w
  refine cond_dec (fun h1 => ?_) (fun h1 => ?_)
  · refine cond_yes (decide_eq_true (by assumption)) ?_
    refine cond_yes (decide_eq_true (by assumption)) ?_
    refine cond_yes rfl ?_
    exact ⟨rfl, H.keeps⟩
  · refine cond_no (decide_eq_false (by assumption)) ?_
    refine cond_no (decide_eq_false (by assumption)) ?_
    refine cond_yes (decide_eq_true (by omega)) ?_
    exact ⟨rfl, H.keeps⟩
/-- The parts of an arena brought into their order. -/
theorem arR_close {w0 w : World} {F : Nat → Prop} {L M : List Res} {g r : Nat} {B : Option Addr} {n c : Nat} {room : Int} {N : List Slot} {l : List (Nd × Nat)} (H : Hp w0 F w (blk g 199 (arV B n c room r) :: own 202 3 (.slice B n c) n (flat encS N) :: mapR kaN vbN r l :: L) M)
    (hn : N.length = n) (hl : IdsOk l (ars N)) : Hp w0 F w (arR g r (.slice B n c) room (ars N) :: L) M := by
  subst hn
  have H := H.front 1 rfl
  have H : Hp w0 F w (own 202 3 (.slice B N.length c) N.length (flat encS N) :: blk g 199 (arV B N.length c room r) :: mapR kaN vbN r l :: L) M := H
  have H := H.re (r' := nodesR (.slice B N.length c) (ars N)) (fun h => ⟨N, rfl, h⟩) (fun g hg => hg)
  have H := H.front 2 rfl
  have H : Hp w0 F w (mapR kaN vbN r l :: nodesR (.slice B N.length c) (ars N) :: blk g 199 (arV B N.length c room r) :: L) M := H
  have H := H.re (r' := idsR r (ars N)) (fun h => ⟨l, hl, h⟩) (fun g hg => hg)
  have H := H.front 1 rfl
  have H : Hp w0 F w (nodesR (.slice B N.length c) (ars N) :: idsR r (ars N) :: blk g 199 (arV B N.length c room r) :: L) M := H
  have H := H.front 2 rfl
  have H : Hp w0 F w (blk g 199 (arV B N.length c room r) :: nodesR (.slice B N.length c) (ars N) :: idsR r (ars N) :: L) M := H
  exact Hp.join (Ls := arP g r (.slice B N.length c) room (ars N)) H
theorem build199 {n : Int} {r : Nat} {w : World} {kk : Value → World → Prop} (h : kk (.agg (arV none 0 0 n r)) w) : buildK Try.prog 199 [(0, .int .i64 n), (2, .map (some r))] w kk :=
  build_by (fun w => by kernel_rfl) h
theorem ids_nil : IdsOk [] [] := ⟨fun n => rfl, rfl⟩
theorem c64_a (n : Int) (h0 : 0 ≤ n) (hn : n ≤ 20000) (w : World) : Fun Try.prog 64 [.int .i64 n] w fun v w' => ∃ g r, v = .tuple #[.pointer (some ⟨g, 0, none⟩), .int .i64 0] ∧ NewR w w' (arR g r (.slice none 0 0) n []) := by
  refine fun_of_W (N := 14) Try.func64 ent64 rfl rfl rfl (by simp) ?_
  have H := Hp.start0 w
  iterate 4 refine cond_no (decide_eq_false (by omega)) ?_
  refine H.makeMap kaN vbN ?_
  clear H
  intro r5 w5 H
  refine build199 ?_
  refine H.box 199 _ (cs := arV none 0 0 n r5) rfl ?_
  clear H
  intro g6 w6 H
  have H := (H.ownNil 202 3).front 1 rfl
  have H : Hp w (fun _ => False) w6 (blk g6 199 (arV none 0 0 n r5) :: own 202 3 (.slice none 0 0) 0 (flat encS []) :: mapR kaN vbN r5 [] :: []) [] := H
  exact ⟨g6, r5, rfl, (arR_close H rfl ids_nil).out⟩
end Go.Proofs.Ytjebpngdinbckaa
end

section
/- Arenas: Make. -/
namespace Go.Proofs.Ytjebpngdinbckaa
open Go.Dk
attribute [local irreducible] IntKind.wrap

theorem arR_lt {g r : Nat} {sv : Value} {room : Int} {A : Ar} {w : World} (h : (arR g r sv room A).ok w) : ∀ x, (arR g r sv room A).foot x → x < w.heap.size := fun x ⟨q, hq, hx⟩ => h.2.1 q hq x hx
theorem arR_same {g r : Nat} {sv : Value} {room : Int} {A : Ar} {w w' : World} (h : (arR g r sv room A).ok w) (hk : Same w w') : (arR g r sv room A).ok w' :=
  (arR g r sv room A).stable w w' (fun x hx => hk.old x (arR_lt h x hx) id) h
theorem arR_turn {g r : Nat} {sv : Value} {room : Int} {A : Ar} {w w' : World} (h : (arR g r sv room A).ok w) (hk : Same w w') : Turn w w' (arR g r sv room A) (arR g r sv room A) :=
  (Turn.refl h (arR_lt h)).same hk
/-- An arena opened, to be turned. -/
theorem arR_own {g r : Nat} {sv : Value} {room : Int} {A : Ar} {w : World} (h : (arR g r sv room A).ok w) :
    ∃ N B c l, ars N = A ∧ sv = .slice B N.length c ∧ IdsOk l A ∧ (akeys l).Nodup ∧
      Hp w (arR g r sv room A).foot w [blk g 199 (arV B N.length c room r), own 202 3 (.slice B N.length c) N.length (flat encS N), mapR kaN vbN r l] [] := by
  obtain ⟨N, B, c, l, rfl, rfl, hl, hnd, _⟩ := arR_open h
  have h' := h
  obtain ⟨h1, h2, h3⟩ := h'
  have H := Hp.own1 h (arR_lt h)
  have H := Hp.split (Ls := arP g r (.slice B N.length c) room (ars N)) (L := []) H
  have H : Hp w (arR g r (.slice B N.length c) room (ars N)).foot w (nodesR (.slice B N.length c) (ars N) :: blk g 199 (arV B N.length c room r) :: idsR r (ars N) :: []) [] := H.front 1 rfl
  obtain ⟨N', hN', hown⟩ := H.ok _ (.head _)
  have hlen : N'.length = N.length := by rw [← ars_length, hN', ars_length]
  rw [hlen] at hown
  have H := H.re (r' := own 202 3 (.slice B N.length c) N.length (flat encS N')) (fun _ => hown) (fun g hg => hg)
  have H : Hp w (arR g r (.slice B N.length c) room (ars N)).foot w (idsR r (ars N) :: own 202 3 (.slice B N.length c) N.length (flat encS N') :: blk g 199 (arV B N.length c room r) :: []) [] := H.front 2 rfl
  obtain ⟨l', hl', hmap⟩ := H.ok _ (.head _)
  have hnd' : (akeys l').Nodup := by
    obtain ⟨es, clock, _, hs, he⟩ := hmap
    exact mapR_keys W196.inj hs he
  have H := H.re (r' := mapR kaN vbN r l') (fun _ => hmap) (fun g hg => hg)
  have H : Hp w (arR g r (.slice B N.length c) room (ars N)).foot w (own 202 3 (.slice B N.length c) N.length (flat encS N') :: mapR kaN vbN r l' :: blk g 199 (arV B N.length c room r) :: []) [] := H.front 1 rfl
  have H : Hp w (arR g r (.slice B N.length c) room (ars N)).foot w (blk g 199 (arV B N.length c room r) :: own 202 3 (.slice B N.length c) N.length (flat encS N') :: mapR kaN vbN r l' :: []) [] := H.front 2 rfl
  exact ⟨N', B, c, l', hN', by rw [hlen], hl', hnd', by rw [hlen]; exact H⟩
theorem lookup_hit {α β : Type} [DecidableEq α] {ka : α → Value} {vb : β → Value} {z : Value} {P : Program} {t kt et : TypeId} {l : List (α × β)} {r : Nat} {w : World} {kk : Value → World → Prop} (hr : (mapR ka vb r l).ok w) (W : MapW P t kt et ka vb z) (a : α) {b : β}
    (hg : aget l a = some b) (h : kk (.tuple #[vb b, .bool true]) w) : lookupK P t (.map (some r)) (ka a) true w kk :=
  lookupOk_at hr W a (fun b' hb' => by rw [hg] at hb'; cases hb'; exact h) (fun hn => by rw [hg] at hn; cases hn)
theorem lookup_miss {α β : Type} [DecidableEq α] {ka : α → Value} {vb : β → Value} {z : Value} {P : Program} {t kt et : TypeId} {l : List (α × β)} {r : Nat} {w : World} {kk : Value → World → Prop} (hr : (mapR ka vb r l).ok w) (W : MapW P t kt et ka vb z) (a : α)
    (hg : aget l a = none) (h : kk (.tuple #[z, .bool false]) w) : lookupK P t (.map (some r)) (ka a) true w kk :=
  lookupOk_at hr W a (fun b' hb' => by rw [hg] at hb'; cases hb') (fun _ => h)
theorem mapSet_by {P : Program} {t : TypeId} {m i x x' : Value} {w : World} {k : Value → World → Prop} (hx : x = x') (h : mapSetK P t m i x' w k) : mapSetK P t m i x w k := by subst hx; exact h
theorem build202 {a b c : Int} {w : World} {kk : Value → World → Prop} (h : kk (k3 a b c) w) : buildK Try.prog 202 [(0, .int .i64 a), (1, .int .i64 b), (2, .int .i64 c)] w kk :=
  build_by (fun w => by kernel_rfl) h
theorem lvlA_nonneg {A : Ar} {id : Int} (h : 0 ≤ lvlA A id) : 0 ≤ id := by
  rcases lvlA_node h with rfl | rfl | ⟨i, _, rfl, _⟩ <;> omega
theorem ent68 : enters Try.prog 68 = true := by kernel_rfl
theorem c68_nil (l lo hi : Int) (w : World) : Fun Try.prog 68 [.pointer none, .int .i64 l, .int .i64 lo, .int .i64 hi] w fun v w' => v = .tuple #[.int .i64 0, .int .i64 1] ∧ Same w w' := by
  refine fun_of_W (N := 112) Try.func68 ent68 rfl rfl rfl (by simp) ?_
  have H := Hp.start0 w
  refine bin_eql59z ?_
  iterate 16 refine cond_yes rfl ?_
  exact ⟨rfl, H.keeps⟩
theorem c68_b {g r : Nat} {sv : Value} {room : Int} {A : Ar} (l lo hi : Int) (hlo : lo < 9223372036854775808) (hhi : hi < 9223372036854775808) (hb : l < 0 ∨ lvlA A lo ≤ l ∨ lvlA A hi ≤ l) (w : World) (h : (arR g r sv room A).ok w) :
    Fun Try.prog 68 [.pointer (some ⟨g, 0, none⟩), .int .i64 l, .int .i64 lo, .int .i64 hi] w fun v w' => v = .tuple #[.int .i64 0, .int .i64 1] ∧ Same w w' := by
  refine fun_of_W (N := 112) Try.func68 ent68 rfl rfl rfl (by simp) ?_
  have H := Hp.start0 w
  refine bin_eql59 ?_
  iterate 3 refine cond_no rfl ?_
  refine cond_dec (fun h5 => ?_) (fun h5 => ?_)
  · refine cond_yes (decide_eq_true (by assumption)) ?_
    iterate 4 refine cond_yes (decide_eq_true (by assumption)) ?_
    iterate 7 refine cond_yes rfl ?_
    exact ⟨rfl, H.keeps⟩
  · refine cond_no (decide_eq_false (by assumption)) ?_
    refine cond_no (decide_eq_false (by assumption)) ?_
    refine call_fn (c166 _ hlo _ h) ?_
    rintro _ w21 ⟨rfl, hk⟩
    replace h := arR_same h hk
    replace H := H.same hk
    clear hk
    iterate 3 refine cond_no (decide_eq_false (by assumption)) ?_
    refine cond_dec (fun h25 => ?_) (fun h25 => ?_)
    · refine cond_yes (decide_eq_true (by assumption)) ?_
      iterate 4 refine cond_yes (decide_eq_true (by assumption)) ?_
      refine cond_yes rfl ?_
      exact ⟨rfl, H.keeps⟩
    · refine cond_no (decide_eq_false (by assumption)) ?_
      refine cond_no (decide_eq_false (by assumption)) ?_
      refine call_fn (c166 _ hhi _ h) ?_
      rintro _ w35 ⟨rfl, hk⟩
      replace h := arR_same h hk
      replace H := H.same hk
      clear hk
      iterate 3 refine cond_no (decide_eq_false (by assumption)) ?_
      refine cond_yes (decide_eq_true (by omega)) ?_
      exact ⟨rfl, H.keeps⟩
theorem c68_f {g r : Nat} {sv : Value} {room : Int} {A : Ar} (n : Nd) (hlo : (n.lo : Int) < 9223372036854775808) (hhi : (n.hi : Int) < 9223372036854775808) (h1 : (n.l : Int) < lvlA A n.lo) (h2 : (n.l : Int) < lvlA A n.hi) (i : Nat) (hf : findA A n = some i) (w : World) (h : (arR g r sv room A).ok w) :
    Fun Try.prog 68 [.pointer (some ⟨g, 0, none⟩), .int .i64 n.l, .int .i64 n.lo, .int .i64 n.hi] w fun v w' => v = .tuple #[.int .i64 ((i + 2 : Nat) : Int), .int .i64 0] ∧ Same w w' := by
  refine fun_of_W (N := 112) Try.func68 ent68 rfl rfl rfl (by simp) ?_
  have h' := h
  obtain ⟨N, B, c, l, rfl, rfl, hl, hnd, H⟩ := arR_open h'
  have hg : aget l n = some (i + 2) := by rw [hl.get, hf]; rfl
  clear h'
  refine bin_eql59 ?_
  iterate 6 refine cond_no rfl ?_
  refine call_fn (c166 _ hlo _ h) ?_
  rintro _ w10 ⟨rfl, hk⟩
  replace h := arR_same h hk
  replace H := H.same hk
  clear hk
  iterate 3 refine cond_no rfl ?_
  iterate 3 refine cond_no (decide_eq_false (by omega)) ?_
  refine call_fn (c166 _ hhi _ h) ?_
  rintro _ w17 ⟨rfl, hk⟩
  replace h := arR_same h hk
  replace H := H.same hk
  clear hk
  iterate 4 refine cond_no (decide_eq_false (by omega)) ?_
  refine build202 ?_
  refine H.alloc 202 zero202 rfl ?_
  clear H
  intro g23 w23 H
  refine H.storeAll 0 rfl size202 rfl (fun v hv => encS_one (.inl n) v hv) ?_
  clear H
  intro w24 H
  refine H.draw fol (by kernel_rfl) ?_
  clear H
  intro w25 H
  refine quiet _ (fun w H => fieldAddr_by (fa199_2 _) ⟨rfl, rfl⟩) ?_
  refine quiet _ (fun w H => ld_blk (H.ro 0 rfl) agg196 rfl ⟨rfl, rfl⟩) ?_
  refine quiet _ (fun w H => H.loadAll 0 rfl agg202 size202 ⟨rfl, rfl⟩) ?_
  refine quiet _ (fun w H => lookup_hit (H.ro 2 rfl) W196 n hg ⟨rfl, rfl⟩) ?_
  refine cond_yes rfl ?_
  exact ⟨rfl, H.keeps⟩
theorem c68_r {g r : Nat} {sv : Value} {room : Int} {A : Ar} (n : Nd) (hlo : (n.lo : Int) < 9223372036854775808) (hhi : (n.hi : Int) < 9223372036854775808) (h1 : (n.l : Int) < lvlA A n.lo) (h2 : (n.l : Int) < lvlA A n.hi) (hf : findA A n = none) (hfull : room ≤ (liveA A : Int)) (w : World) (h : (arR g r sv room A).ok w) :
    Fun Try.prog 68 [.pointer (some ⟨g, 0, none⟩), .int .i64 n.l, .int .i64 n.lo, .int .i64 n.hi] w fun v w' => v = .tuple #[.int .i64 0, .int .i64 5] ∧ Same w w' := by
  refine fun_of_W (N := 112) Try.func68 ent68 rfl rfl rfl (by simp) ?_
  have h' := h
  obtain ⟨N, B, c, l, rfl, rfl, hl, hnd, H⟩ := arR_open h'
  have hg : aget l n = none := by rw [hl.get, hf]; rfl
  have hlen := hl.len
  clear h'
  refine bin_eql59 ?_
  iterate 6 refine cond_no rfl ?_
  refine call_fn (c166 _ hlo _ h) ?_
  rintro _ w10 ⟨rfl, hk⟩
  replace h := arR_same h hk
  replace H := H.same hk
  clear hk
  iterate 3 refine cond_no rfl ?_
  iterate 3 refine cond_no (decide_eq_false (by omega)) ?_
  refine call_fn (c166 _ hhi _ h) ?_
  rintro _ w17 ⟨rfl, hk⟩
  replace h := arR_same h hk
  replace H := H.same hk
  clear hk
  iterate 4 refine cond_no (decide_eq_false (by omega)) ?_
  refine build202 ?_
  refine H.alloc 202 zero202 rfl ?_
  clear H
  intro g23 w23 H
  refine H.storeAll 0 rfl size202 rfl (fun v hv => encS_one (.inl n) v hv) ?_
  clear H
  intro w24 H
  refine H.draw fol (by kernel_rfl) ?_
  clear H
  intro w25 H
  refine quiet _ (fun w H => fieldAddr_by (fa199_2 _) ⟨rfl, rfl⟩) ?_
  refine quiet _ (fun w H => ld_blk (H.ro 0 rfl) agg196 rfl ⟨rfl, rfl⟩) ?_
  refine quiet _ (fun w H => H.loadAll 0 rfl agg202 size202 ⟨rfl, rfl⟩) ?_
  refine quiet _ (fun w H => lookup_miss (H.ro 2 rfl) W196 n hg ⟨rfl, rfl⟩) ?_
  refine cond_no rfl ?_
  refine H.draw fol (by kernel_rfl) ?_
  clear H
  intro w31 H
  refine quiet _ (fun w H => fieldAddr_by (fa199_2 _) ⟨rfl, rfl⟩) ?_
  refine quiet _ (fun w H => ld_blk (H.ro 0 rfl) agg196 rfl ⟨rfl, rfl⟩) ?_
  refine quiet _ (fun w H => lenMap_at (H.ro 2 rfl) W196 ⟨rfl, rfl⟩) ?_
  refine quiet _ (fun w H => fieldAddr_by (fa199_0 _) ⟨rfl, rfl⟩) ?_
  refine quiet _ (fun w H => ld_blk (H.ro 0 rfl) agg3 rfl ⟨rfl, rfl⟩) ?_
  refine cond_yes (decide_eq_true (by omega)) ?_
  exact ⟨rfl, H.keeps⟩
end Go.Proofs.Ytjebpngdinbckaa
end

section
/- Arenas: Make, a new node. -/
namespace Go.Proofs.Ytjebpngdinbckaa
open Go.Dk
attribute [local irreducible] IntKind.wrap

theorem _root_.Go.Dk.Hp.drawC {P : Program} {w0 w : World} {F : Nat → Prop} {L M : List Res} {N : Nat} {ops : Array Oper} {K : Fr → World → Prop} {f : Fr} (H : Hp w0 F w L M) (L' : List Res) (hsub : ∀ u, Hp w0 F u L M → Hp w0 F u L' M) (hf : P.follows .mixedOrders = true)
    (hB : (Region.noSelect ops && mixB ops) = true) (h : ∀ w', Hp w0 F w' L M → mixK P N (fun u => Hp w0 F u L' M) ops K 0 ops.toList f w') : drawK P N ops K f w :=
  draw_mix (fun u => Hp w0 F u L' M) hf hB (hsub _ (H.same (Keeps.drew _))) (h _ (H.same (Keeps.drew _)))
theorem add2 {k : Nat} (hk : k < 9223372036854775000) : IntKind.i64.wrap ((k : Int) + 2) = ((k + 2 : Nat) : Int) := by rw [wrap_i64_in (by omega) (by omega)]; omega
theorem c68_n {g r : Nat} {sv : Value} {room : Int} {A : Ar} (n : Nd) (hlo : (n.lo : Int) < 9223372036854775808) (hhi : (n.hi : Int) < 9223372036854775808) (h1 : (n.l : Int) < lvlA A n.lo) (h2 : (n.l : Int) < lvlA A n.hi) (hf : findA A n = none) (hfull : (liveA A : Int) < room) (hok : ArOk room A) (w : World) (h : (arR g r sv room A).ok w) :
    Fun Try.prog 68 [.pointer (some ⟨g, 0, none⟩), .int .i64 n.l, .int .i64 n.lo, .int .i64 n.hi] w fun v w' => ∃ sv', v = .tuple #[.int .i64 ((freeA A + 2 : Nat) : Int), .int .i64 0] ∧ Turn w w' (arR g r sv room A) (arR g r sv' room (putA A n)) := by
  refine fun_of_W (N := 112) Try.func68 ent68 rfl rfl rfl (by simp) ?_
  have h' := h
  obtain ⟨N, B, c, l, rfl, rfl, hl, hnd, H⟩ := arR_own h'
  have hg : aget l n = none := by rw [hl.get, hf]; rfl
  have hlen := hl.len
  clear h'
  refine bin_eql59 ?_
  iterate 6 refine cond_no rfl ?_
  refine call_fn (c166 _ hlo _ h) ?_
  rintro _ w10 ⟨rfl, hk⟩
  replace h := arR_same h hk
  replace H := H.same hk
  clear hk
  iterate 3 refine cond_no rfl ?_
  iterate 3 refine cond_no (decide_eq_false (by omega)) ?_
  refine call_fn (c166 _ hhi _ h) ?_
  rintro _ w17 ⟨rfl, hk⟩
  replace h := arR_same h hk
  replace H := H.same hk
  clear hk
  iterate 4 refine cond_no (decide_eq_false (by omega)) ?_
  refine build202 ?_
  refine H.alloc 202 zero202 rfl ?_
  clear H
  intro g23 w23 H
  refine H.storeAll 0 rfl size202 rfl (fun v hv => encS_one (.inl n) v hv) ?_
  clear H
  intro w24 H
  refine H.draw fol (by kernel_rfl) ?_
  clear H
  intro w25 H
  refine quiet _ (fun w H => fieldAddr_by (fa199_2 _) ⟨rfl, rfl⟩) ?_
  refine quiet _ (fun w H => H.load 1 rfl agg196 rfl ⟨rfl, rfl⟩) ?_
  refine quiet _ (fun w H => H.loadAll 0 rfl agg202 size202 ⟨rfl, rfl⟩) ?_
  refine quiet _ (fun w H => lookup_miss (H.get 3 rfl) W196 n hg ⟨rfl, rfl⟩) ?_
  refine cond_no rfl ?_
  refine H.draw fol (by kernel_rfl) ?_
  clear H
  intro w31 H
  refine quiet _ (fun w H => fieldAddr_by (fa199_2 _) ⟨rfl, rfl⟩) ?_
  refine quiet _ (fun w H => H.load 1 rfl agg196 rfl ⟨rfl, rfl⟩) ?_
  refine quiet _ (fun w H => lenMap_at (H.get 3 rfl) W196 ⟨rfl, rfl⟩) ?_
  refine quiet _ (fun w H => fieldAddr_by (fa199_0 _) ⟨rfl, rfl⟩) ?_
  refine quiet _ (fun w H => H.load 1 rfl agg3 rfl ⟨rfl, rfl⟩) ?_
  refine cond_no (decide_eq_false (by omega)) ?_
  have hfl := freeA_le (ars N)
  rw [ars_length] at hfl
  have hN2 : N.length ≤ 20000 := by have h3 := hok.len; have h4 := hok.room; rw [ars_length] at h3; omega
  have hwi : IntKind.i64.wrap ((freeA (ars N) : Int) + 2) = ((freeA (ars N) + 2 : Nat) : Int) := add2 (by omega)
  refine loop_rule (γ := Nat) _ rfl (fun i => [(13, .int .i64 (i : Int))]) (fun i w' => i ≤ freeA (ars N) ∧ H.cl w') (fun i => freeA (ars N) - i) 0 ⟨rfl, trivial⟩ ⟨Nat.zero_le _, H⟩ ?_
  rintro i u w8 ⟨hi, H2⟩
  have H : Hp _ _ _ _ _ := H2
  rcases Nat.lt_or_ge i (freeA (ars N)) with hin | hin
  · obtain ⟨m, hm⟩ := slot_before hin
    have hk' : i < N.length := by omega
    obtain ⟨g0, rfl⟩ := own_base (H.get 2 rfl) (by omega)
    obtain ⟨s, hs'⟩ : ∃ s, N[i]? = some s := ⟨_, List.getElem?_eq_getElem hk'⟩
    have hs2 := slot_ars hs'
    rw [hm] at hs2
    cases s with
    | inr p => cases hs2
    | inl n' =>
      cases hs2
      refine fieldAddr_by (fa199_1 _) ?_
      refine H.load 1 rfl agg197 rfl ?_
      refine len_sl Try.underlying197 ?_
      iterate 3 refine cond_yes (decide_eq_true (by omega)) ?_
      refine fieldAddr_by (fa199_1 _) ?_
      refine cond_yes (decide_eq_true (by omega)) ?_
      refine H.load 1 rfl agg197 rfl ?_
      iterate 2 refine cond_yes (decide_eq_true (by omega)) ?_
      refine idxAddr_sl Try.underlying197 size202 i rfl hk' (o' := i * 3) (by omega) ?_
      refine cond_yes (decide_eq_true (by omega)) ?_
      refine fieldAddr_by (fa202_0 _ _) ?_
      refine cond_yes (decide_eq_true (by omega)) ?_
      refine ld_fld (H.get 2 rfl) encS_length agg3 i 0 rfl hs' rfl ?_
      iterate 2 refine cond_yes (decide_eq_true (by omega)) ?_
      refine cond_yes rfl ?_
      exact ⟨i + 1, by omega, ⟨up (by omega), trivial⟩, by omega, H2⟩
  · obtain rfl : i = freeA (ars N) := by omega
    by_cases hend : freeA (ars N) = N.length
    · refine fieldAddr_by (fa199_1 _) ?_
      refine H.load 1 rfl agg197 rfl ?_
      refine len_sl Try.underlying197 ?_
      iterate 10 refine cond_no (decide_eq_false (by omega)) ?_
      refine cond_no rfl ?_
      refine fieldAddr_by (fa199_1 _) ?_
      refine H.load 1 rfl agg197 rfl ?_
      refine len_sl Try.underlying197 ?_
      refine cond_yes (beq_iff_eq.2 (by omega)) ?_
      refine H.drawC [blk g23 202 #[.int .i64 n.l, .int .i64 n.lo, .int .i64 n.hi], blk g 199 (arV B N.length c room r), mapR kaN vbN r l] (fun u H => (H.front 2 rfl).forget) fol (by kernel_rfl) ?_
      clear H
      intro w27 H
      refine quiet _ (fun w H => fieldAddr_by (fa199_1 _) ⟨rfl, rfl⟩) ?_
      refine quiet _ (fun w H => H.load 1 rfl agg197 rfl ⟨rfl, rfl⟩) ?_
      refine quiet _ (fun w H => H.loadAll 0 rfl agg202 size202 ⟨rfl, rfl⟩) ?_
      refine H.buildSl T197 (cs := (encS (.inl n)).toArray) (by decide) (by decide) (by kernel_rfl) ?_
      clear H
      intro g28 w28 H
      refine ⟨.inl ((H.forget).front 2 rfl).forget, ?_⟩
      refine H.appendBlk 3 0 T197 rfl rfl rfl (fun v hv => encS_one (.inl n) v hv) (by omega) (by omega) ?_
      intro A29 d29 w29 H
      refine ⟨.inl ((H.forget).front 2 rfl).forget, ?_⟩
      refine quiet _ (fun w H => fieldAddr_by (fa199_1 _) ⟨rfl, rfl⟩) ?_
      refine H.store 2 rfl size197 (Nat.le_of_ble_eq_true rfl) rfl ?_
      clear H
      intro w4 H
      refine ⟨.inr rfl, ?_⟩
      refine H.draw fol (by kernel_rfl) ?_
      clear H
      intro w6 H
      refine quiet _ (fun w H => fieldAddr_by (fa199_2 _) ⟨rfl, rfl⟩) ?_
      refine quiet _ (fun w H => H.load 2 rfl agg196 rfl ⟨rfl, rfl⟩) ?_
      refine quiet _ (fun w H => H.loadAll 1 rfl agg202 size202 ⟨rfl, rfl⟩) ?_
      refine mapSet_by (congrArg _ hwi) (H.mapSet 4 rfl W196 n (freeA (ars N) + 2) ?_)
      clear H
      intro w7 H
      refine ⟨.inr rfl, ?_⟩
      have H : Hp w (arR g r (.slice B N.length c) room (ars N)).foot w7 (blk g 199 (arV A29 (N.length + 1) d29 room r) :: own 202 3 (.slice A29 (N.length + 1) d29) (N.length + 1) (flat encS N ++ encS (.inl n)) :: mapR kaN vbN r (aset l n (freeA (ars N) + 2)) :: []) [] := H.forget.forget
      rw [← flat_snoc] at H
      have e : ars (N ++ [.inl n]) = putA (ars N) n := by
        rw [ars_snoc, putA, ars_length, if_pos hend]; rfl
      have H := arR_close H (by simp) (by rw [e]; exact ids_put hl hok.inv.uniq hf)
      rw [e] at H
      exact ⟨_, congrArg (fun z => Value.tuple #[.int .i64 z, .int .i64 0]) hwi, H.outTurn⟩
    · have hk' : freeA (ars N) < N.length := by omega
      obtain ⟨g0, rfl⟩ := own_base (H.get 2 rfl) (by omega)
      obtain ⟨s, hs'⟩ : ∃ s, N[freeA (ars N)]? = some s := ⟨_, List.getElem?_eq_getElem hk'⟩
      have hs2 := slot_ars hs'
      rw [slot_free] at hs2
      cases s with
      | inl n' => cases hs2
      | inr p =>
        refine fieldAddr_by (fa199_1 _) ?_
        refine H.load 1 rfl agg197 rfl ?_
        refine len_sl Try.underlying197 ?_
        iterate 3 refine cond_yes (decide_eq_true (by omega)) ?_
        refine fieldAddr_by (fa199_1 _) ?_
        refine cond_yes (decide_eq_true (by omega)) ?_
        refine H.load 1 rfl agg197 rfl ?_
        iterate 2 refine cond_yes (decide_eq_true (by omega)) ?_
        refine idxAddr_sl Try.underlying197 size202 (freeA (ars N)) rfl hk' (o' := freeA (ars N) * 3) (by omega) ?_
        refine cond_yes (decide_eq_true (by omega)) ?_
        refine fieldAddr_by (fa202_0 _ _) ?_
        refine cond_yes (decide_eq_true (by omega)) ?_
        refine ld_fld (H.get 2 rfl) encS_length agg3 (freeA (ars N)) 0 rfl hs' rfl ?_
        iterate 2 refine cond_yes (decide_eq_true (by omega)) ?_
        refine cond_no rfl ?_
        refine fieldAddr_by (fa199_1 _) ?_
        refine H.load 1 rfl agg197 rfl ?_
        refine len_sl Try.underlying197 ?_
        refine cond_no (beq_eq_false_iff_ne.2 (by omega)) ?_
        refine H.draw fol (by kernel_rfl) ?_
        clear H
        intro w33 H
        refine quiet _ (fun w H => fieldAddr_by (fa199_1 _) ⟨rfl, rfl⟩) ?_
        refine quiet _ (fun w H => H.load 1 rfl agg197 rfl ⟨rfl, rfl⟩) ?_
        refine quiet _ (fun w H => H.loadAll 0 rfl agg202 size202 ⟨rfl, rfl⟩) ?_
        refine quiet _ (fun w H => idxAddr_sl Try.underlying197 size202 (freeA (ars N)) rfl hk' (o' := freeA (ars N) * 3) (by omega) ⟨rfl, rfl⟩) ?_
        refine H.storeOwnAgg 2 (.inl n) rfl encS_length size202 (freeA (ars N)) rfl hk' rfl (encS_one _) ?_
        clear H
        intro w34 H
        refine ⟨.inr rfl, ?_⟩
        refine H.draw fol (by kernel_rfl) ?_
        clear H
        intro w35 H
        refine quiet _ (fun w H => fieldAddr_by (fa199_2 _) ⟨rfl, rfl⟩) ?_
        refine quiet _ (fun w H => H.load 1 rfl agg196 rfl ⟨rfl, rfl⟩) ?_
        refine quiet _ (fun w H => H.loadAll 0 rfl agg202 size202 ⟨rfl, rfl⟩) ?_
        refine mapSet_by (congrArg _ hwi) (H.mapSet 3 rfl W196 n (freeA (ars N) + 2) ?_)
        clear H
        intro w6 H
        refine ⟨.inr rfl, ?_⟩
        have H : Hp w (arR g r (.slice (some ⟨g0, 0, none⟩) N.length c) room (ars N)).foot w6 (blk g 199 (arV (some ⟨g0, 0, none⟩) N.length c room r) :: own 202 3 (.slice (some ⟨g0, 0, none⟩) N.length c) N.length (flat encS (N.set (freeA (ars N)) (.inl n))) :: mapR kaN vbN r (aset l n (freeA (ars N) + 2)) :: []) [] := H.forget
        have e : ars (N.set (freeA (ars N)) (.inl n)) = putA (ars N) n := by
          rw [ars_set, putA, ars_length, if_neg hend]; rfl
        have H := arR_close H (by rw [List.length_set]) (by rw [e]; exact ids_put hl hok.inv.uniq hf)
        rw [e] at H
        exact ⟨_, congrArg (fun z => Value.tuple #[.int .i64 z, .int .i64 0]) hwi, H.outTurn⟩
theorem liveA_le (A : Ar) : liveA A ≤ A.length := List.countP_le_length
theorem liveA_full {A : Ar} (h : freeA A = A.length) : liveA A = A.length := by
  unfold liveA
  rw [List.countP_eq_length]
  intro x hx
  obtain ⟨i, hi⟩ := List.mem_iff_getElem?.1 hx
  have hl := (List.getElem?_eq_some_iff.1 hi).1
  obtain ⟨n, hn⟩ := slot_before (A := A) (i := i) (by omega)
  rw [slot_get hl, hn] at hi
  injection hi with hi
  rw [← hi]; rfl
theorem ok_put {room : Int} {A : Ar} (hok : ArOk room A) {n : Nd} (hf : findA A n = none) (h1 : (n.l : Int) < lvlA A n.lo) (h2 : (n.l : Int) < lvlA A n.hi) (hfull : (liveA A : Int) < room) : ArOk room (putA A n) := by
  refine ⟨inv_put hok.inv hf h1 h2, ?_, hok.room⟩
  rw [putA_length]
  split
  · rename_i h; rw [liveA_full h] at hfull; omega
  · exact hok.len
/-- What Make does. -/
theorem ok_mk {room : Int} {A : Ar} (hok : ArOk room A) (l lo hi : Int) : ArOk room (mkA room A l lo hi).1 := by
  unfold mkA
  split
  · exact hok
  · rename_i h
    rw [not_or, not_or] at h
    have hlo := lvlA_nonneg (A := A) (id := lo) (by omega)
    have hhi := lvlA_nonneg (A := A) (id := hi) (by omega)
    split
    · exact hok
    · rename_i hf
      split
      · exact hok
      · rename_i hr
        refine ok_put hok hf ?_ ?_ (by omega)
        · show ((l.toNat : Nat) : Int) < lvlA A ((lo.toNat : Nat) : Int)
          rw [Int.toNat_of_nonneg (by omega), Int.toNat_of_nonneg hlo]; omega
        · show ((l.toNat : Nat) : Int) < lvlA A ((hi.toNat : Nat) : Int)
          rw [Int.toNat_of_nonneg (by omega), Int.toNat_of_nonneg hhi]; omega
theorem c68 {g r : Nat} {sv : Value} {room : Int} {A : Ar} (l lo hi : Int) (hl : l < 9223372036854775808) (hlo : lo < 9223372036854775808) (hhi : hi < 9223372036854775808) (hok : ArOk room A) (w : World) (h : (arR g r sv room A).ok w) :
    Fun Try.prog 68 [.pointer (some ⟨g, 0, none⟩), .int .i64 l, .int .i64 lo, .int .i64 hi] w fun v w' =>
      ∃ sv', v = .tuple #[.int .i64 (mkA room A l lo hi).2.1, .int .i64 (mkA room A l lo hi).2.2] ∧ Turn w w' (arR g r sv room A) (arR g r sv' room (mkA room A l lo hi).1) := by
  unfold mkA
  split
  · rename_i hb
    refine (c68_b l lo hi hlo hhi hb w h).mono ?_
    rintro v w' ⟨rfl, hk⟩
    exact ⟨sv, rfl, arR_turn h hk⟩
  · rename_i hb
    rw [not_or, not_or] at hb
    have hl0 := lvlA_nonneg (A := A) (id := lo) (by omega)
    have hh0 := lvlA_nonneg (A := A) (id := hi) (by omega)
    obtain ⟨a, rfl⟩ := Int.eq_ofNat_of_zero_le (show 0 ≤ l by omega)
    obtain ⟨b, rfl⟩ := Int.eq_ofNat_of_zero_le hl0
    obtain ⟨c, rfl⟩ := Int.eq_ofNat_of_zero_le hh0
    simp only [Int.toNat_natCast]
    split
    · rename_i i hf
      refine (c68_f ⟨a, b, c⟩ hlo hhi (by show (a : Int) < lvlA A (b : Int); omega) (by show (a : Int) < lvlA A (c : Int); omega) i hf w h).mono ?_
      rintro v w' ⟨rfl, hk⟩
      exact ⟨sv, rfl, arR_turn h hk⟩
    · rename_i hf
      split
      · rename_i hr
        refine (c68_r ⟨a, b, c⟩ hlo hhi (by show (a : Int) < lvlA A (b : Int); omega) (by show (a : Int) < lvlA A (c : Int); omega) hf hr w h).mono ?_
        rintro v w' ⟨rfl, hk⟩
        exact ⟨sv, rfl, arR_turn h hk⟩
      · rename_i hr
        exact c68_n ⟨a, b, c⟩ hlo hhi (by show (a : Int) < lvlA A (b : Int); omega) (by show (a : Int) < lvlA A (c : Int); omega) hf (by omega) hok w h
end Go.Proofs.Ytjebpngdinbckaa
end

section
/- Arenas: mark, Sweep, Reach. -/
namespace Go.Proofs.Ytjebpngdinbckaa
open Go.Dk
attribute [local irreducible] IntKind.wrap

theorem lvlA_range {A : Ar} {id : Int} (h : 0 ≤ lvlA A id) : id < (A.length : Int) + 2 := by
  rcases lvlA_node h with rfl | rfl | ⟨i, n, rfl, hi, _⟩
  · omega
  · omega
  · have := slot_lt hi; omega
theorem arR_keep {g r : Nat} {sv : Value} {room : Int} {A : Ar} {w w' : World} {F : Nat → Prop} (h : (arR g r sv room A).ok w) (hk : Keeps F w w') (hs : ∀ x, (arR g r sv room A).foot x → ¬ F x) : (arR g r sv room A).ok w' :=
  (arR g r sv room A).stable w w' (fun x hx => hk.old x (arR_lt h x hx) (hs x hx)) h
theorem arR_foot {g r : Nat} {B : Option Addr} {c n : Nat} {room : Int} {A : Ar} {N : List Slot} {l : List (Nd × Nat)} : ∀ s ∈ [blk g 199 (arV B n c room r), own 202 3 (.slice B n c) n (flat encS N), mapR kaN vbN r l], ∀ x, s.foot x → (arR g r (.slice B n c) room A).foot x := by
  intro s hs x hx
  simp only [List.mem_cons, List.not_mem_nil, or_false] at hs
  rcases hs with rfl | rfl | rfl
  · exact ⟨_, .head _, hx⟩
  · exact ⟨_, .tail _ (.head _), hx⟩
  · exact ⟨_, .tail _ (.tail _ (.head _)), hx⟩
theorem bls_getD {m : List Bool} {k : Nat} (hk : k < m.length) : (bls m)[k]? = some (.bool (m.getD k false)) := by
  rw [bls_get hk]; simp [List.getD_eq_getElem?_getD, hk]
/-- The marks, as they lie. -/
def metR (gm n : Nat) (m : List Bool) : Res := own 4 1 (.slice (some ⟨gm, 0, none⟩) n n) n (bls m)
theorem metR_len {gm n : Nat} {m : List Bool} {w : World} (h : (metR gm n m).ok w) : m.length = n := by
  have := h.1; rw [bls, List.length_map] at this; omega
theorem metR_lt {gm n : Nat} {m : List Bool} {w : World} (h : (metR gm n m).ok w) : ∀ x, (metR gm n m).foot x → x < w.heap.size := fun x hx => (World.ownsRow.lt (w := w) (base := 0) h x hx).2
theorem ent165 : enters Try.prog 165 = true := by kernel_rfl
theorem c165 {g r gm : Nat} {sv : Value} {room : Int} {A : Ar} (hok : ArOk room A) (hsep : ∀ x, (arR g r sv room A).foot x → x ≠ gm) : ∀ (f : Nat) (id : Int) (m : List Bool) (w : World), 24 - lvlA A id < f → id < 9223372036854775808 → (arR g r sv room A).ok w → (metR gm A.length m).ok w →
    Fun Try.prog 165 [.pointer (some ⟨g, 0, none⟩), .int .i64 id, .slice (some ⟨gm, 0, none⟩) A.length A.length] w fun v w' => v = .tuple #[] ∧ Turn w w' (metR gm A.length m) (metR gm A.length (markA A f id m)) := by
  intro f
  induction f with
  | zero => intro id m w hf; have := lvlA_le hok.inv id; omega
  | succ f ih =>
    intro id m w hf hid h hm
    refine fun_of_W (N := 45) Try.func165 ent165 rfl rfl rfl (by simp) ?_
    have h' := h
    obtain ⟨N, B, c, l, rfl, rfl, hl, hnd, H0⟩ := arR_open h'
    clear h'
    have hlen := metR_len hm
    have H := Hp.own1M hm (metR_lt hm) H0.rok H0.rlt (fun s hs x hx hx' => by
      have hx2 : gm = x := by injection hx'
      exact hsep x (arR_foot s hs x hx) hx2.symm)
    clear H0
    have hN2 : N.length ≤ 20000 := by have h3 := hok.len; have h4 := hok.room; rw [ars_length] at h3; omega
    cases ht : thereA (ars N) id with
    | false =>
      have e : markA (ars N) (f + 1) id m = m := by
        unfold markA
        unfold thereA at ht
        by_cases h2 : 2 ≤ id
        · rw [if_pos h2]; rw [decide_eq_true h2, Bool.true_and] at ht
          cases hs : slot (ars N) (id - 2).toNat with
          | none => rfl
          | some n => rw [hs] at ht; cases ht
        · rw [if_neg h2]
      rw [e]
      refine call_fn (c168 id hid _ h) ?_
      rintro _ w1 ⟨rfl, hk⟩
      replace h := arR_same h hk
      replace H := H.same hk
      clear hk
      rw [ht]
      iterate 7 refine cond_yes rfl ?_
      exact ⟨rfl, H.outTurn⟩
    | true =>
      obtain ⟨k, rfl⟩ : ∃ k : Nat, id = (k : Int) + 2 := by
        unfold thereA at ht
        rw [Bool.and_eq_true, decide_eq_true_eq] at ht
        exact ⟨(id - 2).toNat, by omega⟩
      have ht2 := ht
      unfold thereA at ht2
      rw [Bool.and_eq_true, show ((k : Int) + 2 - 2).toNat = k by omega] at ht2
      obtain ⟨n, hs⟩ := Option.isSome_iff_exists.1 ht2.2
      have hk' := slot_lt hs
      rw [ars_length] at hk'
      have hw := sub2 (show k < 9223372036854775806 by omega)
      have hkm : k < m.length := by rw [hlen, ars_length]; exact hk'
      have hmark : markA (ars N) (f + 1) ((k : Int) + 2) m = if m.getD k false then m else markA (ars N) f n.hi (markA (ars N) f n.lo (m.set k true)) := by
        rw [markA, if_pos (by omega), show ((k : Int) + 2 - 2).toNat = k by omega, hs]
      rw [hmark]
      cases hmk : m.getD k false with
      | true =>
        refine call_fn (c168 _ hid _ h) ?_
        rintro _ w1 ⟨rfl, hk⟩
        replace h := arR_same h hk
        replace H := H.same hk
        clear hk
        rw [ht]
        iterate 4 refine cond_no rfl ?_
        refine idxAddr_sl Try.underlying29 size4 k hw (by rw [ars_length]; exact hk') (o' := k) (by omega) ?_
        refine cond_no rfl ?_
        refine H.loadOwn 0 rfl agg4 (bls_getD hkm) ?_
        rw [hmk]
        refine cond_no rfl ?_
        refine cond_yes rfl ?_
        exact ⟨rfl, H.outTurn⟩
      | false =>
        obtain ⟨g0, rfl⟩ := own_base (H.ro 1 rfl) (by omega)
        obtain ⟨s, hs'⟩ : ∃ s, N[k]? = some s := ⟨_, List.getElem?_eq_getElem hk'⟩
        have hs2 := slot_ars hs'
        rw [hs] at hs2
        cases s with
        | inr p => cases hs2
        | inl n' =>
          cases hs2
          have hsep' : ∀ x, (arR g r (.slice (some ⟨g0, 0, none⟩) N.length c) room (ars N)).foot x → ¬ (metR gm (ars N).length m).foot x := fun x hx hx' => by
            have hx2 : gm = x := by injection hx'
            exact hsep x hx hx2.symm
          have h0 := h
          have hlev := hok.inv.lev k n hs
          rw [lvlA_slot hs] at hf
          have hr1 := lvlA_range (A := ars N) (id := n.lo) (by omega)
          have hr2 := lvlA_range (A := ars N) (id := n.hi) (by omega)
          rw [ars_length] at hr1 hr2
          refine call_fn (c168 _ hid _ h) ?_
          rintro _ w1 ⟨rfl, hk⟩
          replace h := arR_same h hk
          replace H := H.same hk
          clear hk
          rw [ht]
          iterate 4 refine cond_no rfl ?_
          refine idxAddr_sl Try.underlying29 size4 k hw (by rw [ars_length]; exact hk') (o' := k) (by omega) ?_
          refine cond_no rfl ?_
          refine H.loadOwn 0 rfl agg4 (bls_getD hkm) ?_
          rw [hmk]
          iterate 2 refine cond_no rfl ?_
          refine idxAddr_sl Try.underlying29 size4 k hw (by rw [ars_length]; exact hk') (o' := k) (by omega) ?_
          refine H.storeOwn 0 rfl size4 (by first | omega | decide | (simp only [IntKind.wrap_i64]; omega) | (rw [bls, List.length_map]; omega) | (rw [bytesV_length]; omega) | (rw [ints_length]; omega) | (simp; done) | (simp; omega)) rfl ?_
          clear H
          intro w13 H
          refine fieldAddr_by (fa199_1 _) ?_
          refine ld_blk (H.ro 0 rfl) agg197 rfl ?_
          refine idxAddr_sl Try.underlying197 size202 k hw hk' (o' := k * 3) (by omega) ?_
          refine fieldAddr_by (fa202_1 _ _) ?_
          refine ld_fld (H.ro 1 rfl) encS_length agg3 k 1 rfl hs' rfl ?_
          have hml : (markA (ars N) f n.lo (m.set k true)).length = (ars N).length := by rw [markA_length, List.length_set]; exact hlen
          replace H := H.re (r' := metR gm (ars N).length (m.set k true)) (fun h => by rw [metR, bls_set]; exact h) (fun g hg => hg)
          refine call_fn (ih n.lo (m.set k true) _ (by omega) (by omega) (arR_keep h0 H.keeps hsep') (H.get 0 rfl)) ?_
          rintro _ w14 ⟨rfl, ht1⟩
          replace H := H.turnBy 0 rfl ht1
          refine fieldAddr_by (fa199_1 _) ?_
          refine ld_blk (H.ro 0 rfl) agg197 rfl ?_
          refine idxAddr_sl Try.underlying197 size202 k hw hk' (o' := k * 3) (by omega) ?_
          refine fieldAddr_by (fa202_2 _ _) ?_
          refine ld_fld (H.ro 1 rfl) encS_length agg3 k 2 rfl hs' rfl ?_
          refine call_fn (ih n.hi (markA (ars N) f n.lo (m.set k true)) _ (by omega) (by omega) (arR_keep h0 H.keeps hsep') (H.get 0 rfl)) ?_
          rintro _ w15 ⟨rfl, ht2⟩
          replace H := H.turnBy 0 rfl ht2
          exact ⟨rfl, H.outTurn⟩
end Go.Proofs.Ytjebpngdinbckaa
end

section
/- Arenas: Reach and Sweep. -/
namespace Go.Proofs.Ytjebpngdinbckaa
open Go.Dk
attribute [local irreducible] IntKind.wrap

theorem arR_foot' {g r : Nat} {B : Option Addr} {c n : Nat} {room : Int} {A : Ar} {N : List Slot} {l : List (Nd × Nat)} {x : Nat} (h : (arR g r (.slice B n c) room A).foot x) : ∃ s ∈ [blk g 199 (arV B n c room r), own 202 3 (.slice B n c) n (flat encS N), mapR kaN vbN r l], s.foot x := by
  obtain ⟨s, hs, hx⟩ := h
  simp only [arP, List.mem_cons, List.not_mem_nil, or_false] at hs
  rcases hs with rfl | rfl | rfl
  · exact ⟨_, .head _, hx⟩
  · exact ⟨_, .tail _ (.head _), hx⟩
  · exact ⟨_, .tail _ (.tail _ (.head _)), hx⟩
def reachTo (met : List Bool) (k : Nat) : List Nat := ((List.range k).filter (mb met)).map (· + 2)
theorem reachTo_succ (met : List Bool) (k : Nat) : reachTo met (k + 1) = if mb met k then reachTo met k ++ [k + 2] else reachTo met k := by
  unfold reachTo
  rw [List.range_succ, List.filter_append]
  by_cases h : mb met k = true
  · rw [if_pos h, List.filter_cons_of_pos h, List.filter_nil, List.map_append]; rfl
  · rw [if_neg h, List.filter_cons_of_neg h, List.filter_nil, List.append_nil]
theorem reachTo_le (met : List Bool) (k : Nat) : (reachTo met k).length ≤ k := by
  unfold reachTo; rw [List.length_map]; exact Nat.le_trans (List.length_filter_le _ _) (by simp)
def reachL (A : Ar) (id : Int) : List Nat := reachTo (markA A 26 id (List.replicate A.length false)) A.length
theorem lvlA_ge (A : Ar) (id : Int) : -1 ≤ lvlA A id := by
  unfold lvlA
  split
  · omega
  · split
    · split <;> omega
    · omega
theorem ent74 : enters Try.prog 74 = true := by kernel_rfl
theorem c74_nil (id : Int) (w : World) : Fun Try.prog 74 [.pointer none, .int .i64 id] w fun v w' => v = .slice none 0 0 ∧ Same w w' := by
  refine fun_of_W (N := 36) Try.func74 ent74 rfl rfl rfl (by simp) ?_
  have H := Hp.start0 w
  refine bin_eql59z ?_
  refine cond_yes rfl ?_
  exact ⟨rfl, H.keeps⟩
theorem c74 {g r : Nat} {sv : Value} {room : Int} {A : Ar} (hok : ArOk room A) (id : Int) (hid : id < 9223372036854775808) (w : World) (h : (arR g r sv room A).ok w) :
    Fun Try.prog 74 [.pointer (some ⟨g, 0, none⟩), .int .i64 id] w fun v w' => ∃ B c, v = .slice B (reachL A id).length c ∧ NewR w w' (own 3 1 (.slice B (reachL A id).length c) (reachL A id).length (ints (reachL A id))) := by
  refine fun_of_W (N := 36) Try.func74 ent74 rfl rfl rfl (by simp) ?_
  have h' := h
  obtain ⟨N, B, c, l, rfl, rfl, hl, hnd, H⟩ := arR_open h'
  clear h'
  have hN2 : N.length ≤ 20000 := by have h3 := hok.len; have h4 := hok.room; rw [ars_length] at h3; omega
  refine bin_eql59 ?_
  refine cond_no rfl ?_
  refine fieldAddr_by (fa199_1 _) ?_
  refine ld_blk (H.ro 0 rfl) agg197 rfl ?_
  refine len_sl Try.underlying197 ?_
  refine H.make T29 N.length rfl rfl (by omega) (by omega) ?_
  clear H
  intro g5 w5 H
  rw [madeBool, show List.replicate N.length (Value.bool false) = bls (List.replicate N.length false) from List.map_replicate.symm] at H
  have hlen : (ars N).length = N.length := ars_length N
  have hsep : ∀ x, (arR g r (.slice B N.length c) room (ars N)).foot x → x ≠ g5 := by
    rintro x hx rfl
    obtain ⟨s, hs, hx'⟩ := arR_foot' (N := N) (l := l) hx
    exact H.rdis s hs _ (.head _) x hx' rfl
  have hc := c165 hok hsep 26 id (List.replicate (ars N).length false) w5 (by have := lvlA_ge (ars N) id; omega) hid (arR_same h H.keeps) (by rw [metR, hlen]; exact H.get 0 rfl)
  rw [hlen] at hc
  refine call_fn hc ?_
  rintro _ w6 ⟨rfl, ht⟩
  replace H := H.turnBy 0 rfl ht
  have hml : (markA (ars N) 26 id (List.replicate N.length false)).length = N.length := by rw [markA_length, List.length_replicate]
  have hres : reachL (ars N) id = reachTo (markA (ars N) 26 id (List.replicate N.length false)) N.length := by rw [reachL, hlen]
  rw [hres]
  generalize markA (ars N) 26 id (List.replicate N.length false) = met at H hml ⊢
  clear hc ht hres
  have H : Hp w (fun _ => False) w6 [own 3 1 (.slice none 0 0) 0 [], metR g5 N.length met] _ := H.ownNil 3 1
  refine len_sl Try.underlying29 ?_
  refine loop_rule (γ := Nat × Option Addr × Nat) _ rfl (fun (i, B, c) => [(23, .int .i64 (i : Int)), (6, .slice B (reachTo met i).length c)])
    (fun (i, B, c) w' => i ≤ N.length ∧ Hp w (fun _ => False) w' [own 3 1 (.slice B (reachTo met i).length c) (reachTo met i).length (ints (reachTo met i)), metR g5 N.length met] []) (fun (i, _, _) => N.length - i) (0, none, 0) ⟨rfl, rfl, trivial⟩ ⟨Nat.zero_le _, H.weakenRO (by simp)⟩ ?_
  clear H
  rintro ⟨i, B2, c2⟩ u w8 ⟨hi, H⟩
  have hle := reachTo_le met i
  have hsu := reachTo_succ met i
  refine cond_dec (fun h1 => ?_) (fun h1 => ?_)
  · refine idxAddr_sl Try.underlying29 (s := 1) (by kernel_rfl) _ rfl (by first | omega | decide | (simp only [IntKind.wrap_i64]; omega) | (rw [bls, List.length_map]; omega) | (rw [bytesV_length]; omega) | (rw [ints_length]; omega) | (simp; done) | (simp; omega)) (o' := _) (by rw [Nat.zero_add, Nat.mul_one]) ?_
    refine H.loadOwn 1 rfl agg4 (bls_getD (by omega)) ?_
    refine cond_split (fun h4 => ?_) (fun h4 => ?_)
    · refine H.buildOne T32 rfl ?_
      clear H
      intro g7 w7 H
      refine H.appendOne 0 T32 rfl rfl (by omega) (by omega) ?_
      clear H
      intro A9 k9 w9 H
      rw [if_pos (show mb met i = true from h4)] at hsu
      have hl2 : (reachTo met (i + 1)).length = (reachTo met i).length + 1 := by rw [hsu]; simp
      rw [add2 (by omega), ints_snoc, ← hsu, ← hl2] at H
      exact ⟨(i + 1, A9, k9), by show N.length - (i + 1) < N.length - i; omega, ⟨up (by omega), by rw [hl2]; rfl, trivial⟩, by show i + 1 ≤ _; omega, H⟩
    · rw [if_neg (by unfold mb; rw [h4]; decide)] at hsu
      rw [← hsu] at H
      exact ⟨(i + 1, B2, c2), by show N.length - (i + 1) < N.length - i; omega, ⟨up (by omega), by rw [hsu]; rfl, trivial⟩, by show i + 1 ≤ _; omega, H⟩
  · obtain rfl : i = N.length := by omega
    exact ⟨B2, c2, rfl, H.out⟩
end Go.Proofs.Ytjebpngdinbckaa
end

section
/- Arenas: Sweep. -/
namespace Go.Proofs.Ytjebpngdinbckaa
open Go.Dk
attribute [local irreducible] IntKind.wrap

def intsI (l : List Int) : List Value := l.map (Value.int .i64)
theorem intsI_length (l : List Int) : (intsI l).length = l.length := by simp [intsI]
theorem intsI_get {l : List Int} {i : Nat} (hi : i < l.length) : (intsI l)[i]? = some (.int .i64 l[i]) := by simp [intsI, hi]
/-- An arena among the parts, opened. -/
theorem arR_parts {w0 w : World} {F : Nat → Prop} {L M : List Res} {g r : Nat} {sv : Value} {room : Int} {A : Ar} (H : Hp w0 F w (arR g r sv room A :: L) M) :
    ∃ N B c l, ars N = A ∧ sv = .slice B N.length c ∧ IdsOk l A ∧ (akeys l).Nodup ∧
      Hp w0 F w (blk g 199 (arV B N.length c room r) :: own 202 3 (.slice B N.length c) N.length (flat encS N) :: mapR kaN vbN r l :: L) M := by
  have h := H.ok _ (.head _)
  obtain ⟨N, B, c, l, rfl, rfl, hl, hnd, _⟩ := arR_open h
  have H := Hp.split (Ls := arP g r (.slice B N.length c) room (ars N)) (L := L) H
  have H : Hp w0 F w (nodesR (.slice B N.length c) (ars N) :: blk g 199 (arV B N.length c room r) :: idsR r (ars N) :: L) M := H.front 1 rfl
  obtain ⟨N', hN', hown⟩ := H.ok _ (.head _)
  have hlen : N'.length = N.length := by rw [← ars_length, hN', ars_length]
  rw [hlen] at hown
  have H := H.re (r' := own 202 3 (.slice B N.length c) N.length (flat encS N')) (fun _ => hown) (fun g hg => hg)
  have H : Hp w0 F w (idsR r (ars N) :: own 202 3 (.slice B N.length c) N.length (flat encS N') :: blk g 199 (arV B N.length c room r) :: L) M := H.front 2 rfl
  obtain ⟨l', hl', hmap⟩ := H.ok _ (.head _)
  have hnd' : (akeys l').Nodup := by
    obtain ⟨es, clock, _, hs, he⟩ := hmap
    exact mapR_keys W196.inj hs he
  have H := H.re (r' := mapR kaN vbN r l') (fun _ => hmap) (fun g hg => hg)
  have H : Hp w0 F w (own 202 3 (.slice B N.length c) N.length (flat encS N') :: mapR kaN vbN r l' :: blk g 199 (arV B N.length c room r) :: L) M := H.front 1 rfl
  have H : Hp w0 F w (blk g 199 (arV B N.length c room r) :: own 202 3 (.slice B N.length c) N.length (flat encS N') :: mapR kaN vbN r l' :: L) M := H.front 2 rfl
  exact ⟨N', B, c, l', hN', by rw [hlen], hl', hnd', by rw [hlen]; exact H⟩
def marksTo (A : Ar) (ks : List Int) (k : Nat) : List Bool := (ks.take k).foldl (fun m id => markA A 26 id m) (List.replicate A.length false)
theorem marksTo_zero (A : Ar) (ks : List Int) : marksTo A ks 0 = List.replicate A.length false := rfl
theorem marksTo_succ (A : Ar) (ks : List Int) {i : Nat} (hi : i < ks.length) : marksTo A ks (i + 1) = markA A 26 ks[i] (marksTo A ks i) := by
  unfold marksTo
  rw [List.take_succ_eq_append_getElem hi, List.foldl_append]; rfl
theorem marksTo_all (A : Ar) (ks : List Int) : marksTo A ks ks.length = marksA A ks := by unfold marksTo marksA; rw [List.take_length]
theorem set_same {α : Type} {l : List α} {i : Nat} {x : α} (h : l[i]? = some x) : l.set i x = l := by
  apply List.ext_getElem?
  intro j
  rw [List.getElem?_set]
  by_cases hj : i = j
  · subst hj; rw [if_pos rfl, if_pos (List.getElem?_eq_some_iff.1 h).1, h]
  · simp [hj]
theorem ent66 : enters Try.prog 66 = true := by kernel_rfl
theorem c66_nil (x : Value) (w : World) : Fun Try.prog 66 [.pointer none, x] w fun v w' => v = .tuple #[] ∧ Same w w' := by
  refine fun_of_W (N := 67) Try.func66 ent66 rfl rfl rfl (by simp) ?_
  have H := Hp.start0 w
  refine bin_eql59z ?_
  refine cond_yes rfl ?_
  exact ⟨rfl, H.keeps⟩
theorem c66 {g r : Nat} {sv : Value} {room : Int} {A : Ar} (hok : ArOk room A) (ks : List Int) (hks : ∀ k ∈ ks, k < 9223372036854775808) (hkl : ks.length < 4611686018427387904) {S : Nat → Prop} {B0 : Option Addr} {c0 : Nat} (w : World) (h : (arR g r sv room A).ok w)
    (hkeep : (sl S (.slice B0 ks.length c0) 1 ks.length (intsI ks)).ok w) (hS : ∀ x, S x → x < w.heap.size) (hdis : ∀ x, S x → ¬ (arR g r sv room A).foot x) :
    Fun Try.prog 66 [.pointer (some ⟨g, 0, none⟩), .slice B0 ks.length c0] w fun v w' => v = .tuple #[] ∧ Turn w w' (arR g r sv room A) (arR g r sv room (sweepA A ks)) := by
  refine fun_of_W (N := 67) Try.func66 ent66 rfl rfl rfl (by simp) ?_
  have H := Hp.own1M h (arR_lt h) (M := [sl S (.slice B0 ks.length c0) 1 ks.length (intsI ks)]) (by simpa using hkeep) (by simpa [sl] using hS) (by simpa [sl] using hdis)
  obtain ⟨N, B, c, l, rfl, rfl, hl, hnd, _⟩ := arR_open h
  have hN2 : N.length ≤ 20000 := by have h3 := hok.len; have h4 := hok.room; rw [ars_length] at h3; omega
  have hlen : (ars N).length = N.length := ars_length N
  refine bin_eql59 ?_
  refine cond_no rfl ?_
  refine fieldAddr_by (fa199_1 _) ?_
  refine ld_blk ((H.get 0 rfl).1 _ (.head _)) agg197 rfl ?_
  refine len_sl Try.underlying197 ?_
  refine H.make T29 N.length rfl rfl (by omega) (by omega) ?_
  clear H
  intro g5 w5 H
  rw [madeBool, show List.replicate N.length (Value.bool false) = bls (List.replicate N.length false) from List.map_replicate.symm] at H
  refine len_sl Try.underlying32 ?_
  have hsep : ∀ x, (arR g r (.slice B N.length c) room (ars N)).foot x → x ≠ g5 := by
    rintro x hx rfl
    exact (List.pairwise_cons.1 H.dis).1 _ (.head _) x rfl hx
  refine loop_rule (γ := Nat) _ rfl (fun i => [(19, .int .i64 (i : Int))])
    (fun i w' => i ≤ ks.length ∧ Hp w (arR g r (.slice B N.length c) room (ars N)).foot w' [metR g5 N.length (marksTo (ars N) ks i), arR g r (.slice B N.length c) room (ars N)] [sl S (.slice B0 ks.length c0) 1 ks.length (intsI ks)]) (fun i => ks.length - i) 0 ⟨rfl, trivial⟩ ⟨Nat.zero_le _, by rw [marksTo_zero, hlen]; exact H⟩ ?_
  clear H
  rintro i u w8 ⟨hi, H⟩
  have hms := marksTo_succ (ars N) ks (i := i)
  refine cond_dec (fun h4 => ?_) (fun h4 => ?_)
  · obtain ⟨gk, ok2, rfl⟩ := (Sl_of_sl hkeep hS).A (by omega)
    refine idxAddr_sl Try.underlying32 (s := 1) size3 i rfl (by omega) (o' := ok2 + i) (by rw [Nat.mul_one]) ?_
    refine H.loadRO 0 rfl agg3 rfl (intsI_get (by omega)) ?_
    have hc := c165 hok hsep 26 ks[i] (marksTo (ars N) ks i) w8 (by have := lvlA_ge (ars N) ks[i]; omega) (hks _ (List.getElem_mem _)) (H.get 1 rfl) (by rw [hlen]; exact H.get 0 rfl)
    rw [hlen] at hc
    refine call_fn hc ?_
    rintro _ w9 ⟨rfl, ht⟩
    replace H := H.turnBy 0 rfl ht
    refine ⟨i + 1, by omega, ⟨up (by omega), trivial⟩, by omega, ?_⟩
    rw [hms (by omega)]
    exact H
  · obtain rfl : i = ks.length := by omega
    have hall : marksTo (ars N) ks ks.length = marksA (ars N) ks := marksTo_all _ _
    rw [hall] at H
    refine len_sl Try.underlying29 ?_
    have H := H.front 1 rfl
    obtain ⟨N2, B2, c2, l2, hN, hsv, hl2, hnd2, H⟩ := arR_parts H
    injection hsv with hB hNl hcc
    subst hB; subst hcc
    have hmk := (marks_spec hok.inv ks).1
    refine loop_rule (γ := Nat × List Slot × List (Nd × Nat)) _ rfl (fun (i, N', l') => [(30, .int .i64 (i : Int))])
      (fun (i, N', l') w' => (i ≤ N.length ∧ N'.length = N.length ∧ ars N' = sweepTo (ars N) (marksA (ars N) ks) i ∧ IdsOk l' (ars N') ∧ (akeys l').Nodup ∧ Uniq (ars N')) ∧
        Hp w (arR g r (.slice B N.length c) room (ars N)).foot w' [blk g 199 (arV B N.length c room r), own 202 3 (.slice B N.length c) N.length (flat encS N'), mapR kaN vbN r l', metR g5 N.length (marksA (ars N) ks)] []) (fun (i, _, _) => N.length - i) (0, N2, l2) ⟨rfl, trivial⟩
        ⟨⟨Nat.zero_le _, hNl.symm, hN, by rw [hN]; exact hl2, hnd2, by rw [hN]; exact hok.inv.uniq⟩, by rw [← hNl] at H; exact H.weakenRO (by simp)⟩ ?_
    clear H hN hl2 hnd2 hNl
    rintro ⟨i, N', l'⟩ u w9 ⟨⟨hi2, hlN, har, hl', hnd', huq⟩, H⟩
    have hsw : sweepTo (ars N) (marksA (ars N) ks) (i + 1) = if mb (marksA (ars N) ks) i then sweepTo (ars N) (marksA (ars N) ks) i else (sweepTo (ars N) (marksA (ars N) ks) i).set i none := rfl
    rw [hlen] at hmk
    refine cond_dec (fun h5 => ?_) (fun h5 => ?_)
    · have hi' : i < N'.length := by omega
      obtain ⟨g0, rfl⟩ := own_base (H.get 1 rfl) (by omega)
      obtain ⟨s, hs⟩ : ∃ s, N'[i]? = some s := ⟨_, List.getElem?_eq_getElem hi'⟩
      cases hm : (marksA (ars N) ks).getD i false with
      | true =>
        rw [if_pos (show mb (marksA (ars N) ks) i = true from hm)] at hsw
        refine idxAddr_sl Try.underlying29 (s := 1) (by kernel_rfl) _ rfl (by first | omega | decide | (simp only [IntKind.wrap_i64]; omega) | (rw [bls, List.length_map]; omega) | (rw [bytesV_length]; omega) | (rw [ints_length]; omega) | (simp; done) | (simp; omega)) (o' := _) (by rw [Nat.zero_add, Nat.mul_one]) ?_
        refine H.loadOwn 3 rfl agg4 (bls_getD (by omega)) ?_
        rw [hm]
        iterate 11 refine cond_no rfl ?_
        exact ⟨(i + 1, N', l'), by show N.length - (i + 1) < N.length - i; omega, ⟨up (by omega), trivial⟩, ⟨by show i + 1 ≤ _; omega, hlN, by rw [hsw]; exact har, hl', hnd', huq⟩, H⟩
      | false =>
        rw [if_neg (show ¬ mb (marksA (ars N) ks) i = true by unfold mb; rw [hm]; decide)] at hsw
        cases s with
        | inr p =>
          refine idxAddr_sl Try.underlying29 (s := 1) (by kernel_rfl) _ rfl (by first | omega | decide | (simp only [IntKind.wrap_i64]; omega) | (rw [bls, List.length_map]; omega) | (rw [bytesV_length]; omega) | (rw [ints_length]; omega) | (simp; done) | (simp; omega)) (o' := _) (by rw [Nat.zero_add, Nat.mul_one]) ?_
          refine H.loadOwn 3 rfl agg4 (bls_getD (by omega)) ?_
          rw [hm]
          iterate 3 refine cond_yes rfl ?_
          refine fieldAddr_by (fa199_1 _) ?_
          refine cond_yes rfl ?_
          refine H.load 0 rfl agg197 rfl ?_
          iterate 2 refine cond_yes rfl ?_
          refine idxAddr_sl Try.underlying197 size202 i rfl (by omega) (o' := i * 3) (by omega) ?_
          refine cond_yes rfl ?_
          refine fieldAddr_by (fa202_0 _ _) ?_
          refine cond_yes rfl ?_
          refine ld_fld (H.get 1 rfl) encS_length agg3 i 0 rfl hs rfl ?_
          iterate 2 refine cond_yes rfl ?_
          refine cond_no rfl ?_
          have e : (ars N').set i none = ars N' := set_same (by rw [slot_get (by rw [ars_length]; exact hi'), slot_ars hs]; rfl)
          exact ⟨(i + 1, N', l'), by show N.length - (i + 1) < N.length - i; omega, ⟨up (by omega), trivial⟩, ⟨by show i + 1 ≤ _; omega, hlN, by rw [hsw, ← har, e], hl', hnd', huq⟩, H⟩
        | inl n =>
          refine idxAddr_sl Try.underlying29 (s := 1) (by kernel_rfl) _ rfl (by first | omega | decide | (simp only [IntKind.wrap_i64]; omega) | (rw [bls, List.length_map]; omega) | (rw [bytesV_length]; omega) | (rw [ints_length]; omega) | (simp; done) | (simp; omega)) (o' := _) (by rw [Nat.zero_add, Nat.mul_one]) ?_
          refine H.loadOwn 3 rfl agg4 (bls_getD (by omega)) ?_
          rw [hm]
          iterate 3 refine cond_yes rfl ?_
          refine fieldAddr_by (fa199_1 _) ?_
          refine cond_yes rfl ?_
          refine H.load 0 rfl agg197 rfl ?_
          iterate 2 refine cond_yes rfl ?_
          refine idxAddr_sl Try.underlying197 size202 i rfl (by omega) (o' := i * 3) (by omega) ?_
          refine cond_yes rfl ?_
          refine fieldAddr_by (fa202_0 _ _) ?_
          refine cond_yes rfl ?_
          refine ld_fld (H.get 1 rfl) encS_length agg3 i 0 rfl hs rfl ?_
          iterate 3 refine cond_yes rfl ?_
          refine H.draw fol (by kernel_rfl) ?_
          clear H
          intro w23 H
          refine quiet _ (fun w H => fieldAddr_by (fa199_2 _) ⟨rfl, rfl⟩) ?_
          refine quiet _ (fun w H => H.load 0 rfl agg196 rfl ⟨rfl, rfl⟩) ?_
          refine quiet _ (fun w H => fieldAddr_by (fa199_1 _) ⟨rfl, rfl⟩) ?_
          refine quiet _ (fun w H => H.load 0 rfl agg197 rfl ⟨rfl, rfl⟩) ?_
          refine quiet _ (fun w H => idxAddr_sl Try.underlying197 size202 i rfl (by omega) (o' := i * 3) (by omega) ⟨rfl, rfl⟩) ?_
          refine quiet _ (fun w H => ld_agg (H.get 1 rfl) encS_length agg202 size202 i rfl hs ⟨rfl, rfl⟩) ?_
          refine H.mapDel 2 rfl W196 n ?_
          clear H
          intro w30 H
          refine ⟨.inr rfl, ?_⟩
          refine fieldAddr_by (fa199_1 _) ?_
          refine H.load 0 rfl agg197 rfl ?_
          refine idxAddr_sl Try.underlying197 size202 i rfl (by omega) (o' := i * 3) (by omega) ?_
          refine fieldAddr_by (fa202_0 _ _) ?_
          refine H.storeOwnFld 1 (.inr ((n.lo : Int), (n.hi : Int))) rfl encS_length size3 i 0 rfl hs (by decide) rfl rfl ?_
          clear H
          intro w36 H
          have hsl : slot (ars N') i = some n := slot_ars hs
          have e : ars (N'.set i (.inr ((n.lo : Int), (n.hi : Int)))) = (ars N').set i none := by rw [ars_set]; rfl
          exact ⟨(i + 1, N'.set i (.inr ((n.lo : Int), (n.hi : Int))), adel l' n), by show N.length - (i + 1) < N.length - i; omega, ⟨up (by omega), trivial⟩,
            ⟨by show i + 1 ≤ _; omega, by rw [List.length_set]; exact hlN, by rw [e, hsw, har], by rw [e]; exact ids_clear hl' hnd' huq hsl, akeys_nodup_adel hnd' n, by rw [e]; exact uniq_clear huq⟩, H⟩
    · refine ⟨rfl, ?_⟩
      obtain rfl : i = N.length := by omega
      have hfin : ars N' = sweepA (ars N) ks := by rw [har, sweepA, hlen]
      have H := arR_close H hlN hl'
      rw [hfin] at H
      exact H.outTurn
end Go.Proofs.Ytjebpngdinbckaa
end

section
/- Arenas: the document's. -/
namespace Go.Proofs.Ytjebpngdinbckaa
open Go.Dk
attribute [local irreducible] IntKind.wrap

theorem ok_nil {room : Int} (h0 : 0 ≤ room) (hr : room ≤ 20000) : ArOk room [] := by
  refine ⟨⟨fun i j n h => ?_, fun i n h => ?_, fun i n h => ?_⟩, by simpa using h0, hr⟩ <;> (have := slot_lt h; simp at this)
theorem k65_1 : mkA 2 [] 5 0 1 = ([some ⟨5, 0, 1⟩], 2, 0) := by kernel_rfl
theorem k65_2 : mkA 2 [some ⟨5, 0, 1⟩] 3 2 1 = ([some ⟨5, 0, 1⟩, some ⟨3, 2, 1⟩], 3, 0) := by kernel_rfl
theorem k65_3 : mkA 2 [some ⟨5, 0, 1⟩, some ⟨3, 2, 1⟩] 5 0 1 = ([some ⟨5, 0, 1⟩, some ⟨3, 2, 1⟩], 2, 0) := by kernel_rfl
theorem k65_4 : mkA 2 [some ⟨5, 0, 1⟩, some ⟨3, 2, 1⟩] 4 0 1 = ([some ⟨5, 0, 1⟩, some ⟨3, 2, 1⟩], 0, 5) := by kernel_rfl
theorem k65_5 : liveA [some ⟨5, 0, 1⟩, some ⟨3, 2, 1⟩] = 2 := by kernel_rfl
theorem k65_6 : (reachL [some ⟨5, 0, 1⟩, some ⟨3, 2, 1⟩] 3).length = 2 := by kernel_rfl
theorem ent65 : enters Try.prog 65 = true := by kernel_rfl
theorem c65 (w : World) : Fun Try.prog 65 [] w fun v w' => v = .bool true ∧ Same w w' := by
  have o0 : ArOk 2 [] := ok_nil (by decide) (by decide)
  have o1 : ArOk 2 [some ⟨5, 0, 1⟩] := by have := ok_mk o0 5 0 1; rwa [k65_1] at this
  have o2 : ArOk 2 [some ⟨5, 0, 1⟩, some ⟨3, 2, 1⟩] := by have := ok_mk o1 3 2 1; rwa [k65_2] at this
  refine fun_of_W (N := 76) Try.func65 ent65 rfl rfl rfl (by simp) ?_
  have H := Hp.start0 w
  refine call_fn (c64_a 2 (by decide) (by decide) _) ?_
  rintro _ w1 ⟨g, r, rfl, hn⟩
  replace H := H.addNew hn
  clear hn
  refine call_fn (c68 5 0 1 (by decide) (by decide) (by decide) o0 _ (H.get 0 rfl)) ?_
  rintro _ w2 ⟨sv1, rfl, ht⟩
  replace H := H.turnBy 0 rfl ht
  clear ht
  rw [k65_1] at H ⊢
  refine call_fn (c68 3 2 1 (by decide) (by decide) (by decide) o1 _ (H.get 0 rfl)) ?_
  rintro _ w3 ⟨sv2, rfl, ht⟩
  replace H := H.turnBy 0 rfl ht
  clear ht
  rw [k65_2] at H ⊢
  refine call_fn (c68 5 0 1 (by decide) (by decide) (by decide) o2 _ (H.get 0 rfl)) ?_
  rintro _ w4 ⟨sv3, rfl, ht⟩
  replace H := H.turnBy 0 rfl ht
  clear ht
  rw [k65_3] at H ⊢
  refine call_fn (c68 4 0 1 (by decide) (by decide) (by decide) o2 _ (H.get 0 rfl)) ?_
  rintro _ w5 ⟨sv4, rfl, ht⟩
  replace H := H.turnBy 0 rfl ht
  clear ht
  rw [k65_4] at H ⊢
  iterate 23 refine cond_yes rfl ?_
  refine call_fn (c70 _ (H.get 0 rfl)) ?_
  rintro _ w29 ⟨rfl, hk⟩
  replace H := H.same hk
  clear hk
  rw [k65_5]
  iterate 4 refine cond_yes rfl ?_
  refine call_fn (c74 o2 3 (by decide) _ (H.get 0 rfl)) ?_
  rintro _ w34 ⟨B, c, rfl, hn⟩
  replace H := H.same hn.keeps
  clear hn
  rw [k65_6]
  refine cond_yes rfl ?_
  refine len_sl Try.underlying32 ?_
  iterate 2 refine cond_yes rfl ?_
  exact ⟨rfl, H.keeps⟩
theorem buildKeep {w0 w : World} {F : Nat → Prop} {L M : List Res} {k : Value → World → Prop} (H : Hp w0 F w L M) (n : Int)
    (h : ∀ g w', Hp w0 F w' (blk g 3 #[.int .i64 n] :: L) M → k (.slice (some ⟨g, 0, none⟩) 1 1) w') : buildSliceK Try.prog 32 1 [(0, .int .i64 n)] w k := H.buildOne T32 rfl h
theorem ent11 : enters Try.prog 11 = true := by kernel_rfl
theorem law11 (l : Int) (hl0 : -9223372036854775808 ≤ l) (hl : l < 9223372036854775808) (lo : Int) (hlo0 : -9223372036854775808 ≤ lo) (hlo : lo < 9223372036854775808) (hi : Int) (hhi0 : -9223372036854775808 ≤ hi) (hhi : hi < 9223372036854775808) (id : Int) (hid0 : -9223372036854775808 ≤ id) (hid : id < 9223372036854775808) (w : World) :
    Fun Try.prog 11 [.int .i64 l, .int .i64 lo, .int .i64 hi, .int .i64 id] w fun v w' => v = .bool true ∧ Same w w' := by
  have o0 : ArOk 0 [] := ok_nil (by decide) (by decide)
  refine fun_of_W (N := 98) Try.func11 ent11 rfl rfl rfl (by simp) ?_
  have H := Hp.start0 w
  refine call_fn (c68_nil _ _ _ _) ?_
  rintro _ w1 ⟨rfl, hk⟩
  replace H := H.same hk
  clear hk
  refine call_fn (c72_nil _ _) ?_
  rintro _ w2 ⟨rfl, hk⟩
  replace H := H.same hk
  clear hk
  refine H.buildOne T32 rfl ?_
  clear H
  intro g3 w3 H
  refine call_fn (c66_nil _ _) ?_
  rintro _ w4 ⟨rfl, hk⟩
  replace H := H.same hk
  clear hk
  refine call_fn (c64_a 0 (by decide) (by decide) _) ?_
  rintro _ w5 ⟨g, r, rfl, hn⟩
  replace H := H.addNew hn
  clear hn
  refine bin_eql59 ?_
  iterate 4 refine cond_no rfl ?_
  refine conv_int (by kernel_rfl) Try.underlying5 ?_
  refine conv_int (by kernel_rfl) Try.underlying3 ?_
  have hx : IntKind.i64.wrap (IntKind.u8.wrap id) = (((id % 256).toNat : Nat) : Int) := by
    rw [IntKind.wrap_u8, wrap_i64_in (by omega) (by omega)]; omega
  refine bin_by_eq hx rfl (bin_rem_i64 (by omega) (by omega) ?_)
  have hy2 : (((id % 256).toNat : Nat) : Int) % 2 < 9223372036854775808 := by omega
  generalize (((id % 256).toNat : Nat) : Int) % 2 = y at hy2 ⊢
  have hy : thereA [] y = false := by unfold thereA; rw [show slot [] (y - 2).toNat = none from rfl]; simp
  refine call_fn (c72_b _ hy2 hy _ (H.get 0 rfl)) ?_
  rintro _ w6 ⟨rfl, hk⟩
  replace H := H.same hk
  clear hk
  iterate 8 refine cond_yes rfl ?_
  refine call_fn (c70_nil _) ?_
  rintro _ w15 ⟨rfl, hk⟩
  replace H := H.same hk
  clear hk
  iterate 5 refine cond_yes rfl ?_
  refine call_fn (c74_nil _ _) ?_
  rintro _ w21 ⟨rfl, hk⟩
  replace H := H.same hk
  clear hk
  refine cond_yes rfl ?_
  refine len_sl Try.underlying32 ?_
  iterate 7 refine cond_yes rfl ?_
  refine call_fn (c74 o0 1 (by decide) _ (H.get 0 rfl)) ?_
  rintro _ w31 ⟨B, c, rfl, hn⟩
  replace H := H.same hn.keeps
  clear hn
  rw [show (reachL [] 1).length = 0 from rfl]
  refine cond_yes rfl ?_
  refine len_sl Try.underlying32 ?_
  iterate 3 refine cond_yes rfl ?_
  refine call_fn (c65 _) ?_
  rintro _ w37 ⟨rfl, hk⟩
  replace H := H.same hk
  clear hk
  refine cond_yes rfl ?_
  exact ⟨rfl, H.keeps⟩
end Go.Proofs.Ytjebpngdinbckaa
end

section
/- More arguments of laws, opened: slices. -/
namespace Go.Dk
open Go.ChangeShapes Go.WideShapes Go.ChangeAt Go.RowKit Go.ChangeMaps
section
variable {H : Type} {enc0 : TypeId × Value → H} {P : Program} {w : World} {base : Nat} {spare : Nat → Bool} {held : Bool}
theorem cell_spot {w : World} {a : Addr} {v : Value} (h : w.cell? a = some v) : a.spot = none ∧ a.block < w.heap.size := by
  unfold World.cell? at h
  split at h
  · rename_i c e fr hb
    refine ⟨?_, (Array.getElem?_eq_some_iff.1 hb).1⟩
    cases hs : a.spot with
    | none => rfl
    | some x => simp [hs] at h
  · cases h
theorem choose_list {α β : Type} {R : β → α → Prop} : ∀ (l : List β), (∀ b ∈ l, ∃ a, R b a) → ∃ ys : List α, ys.length = l.length ∧ ∀ (i : Nat) (b : β) (a : α), l[i]? = some b → ys[i]? = some a → R b a
  | [], _ => ⟨[], rfl, by intro i b a h; simp at h⟩
  | b :: l, h => by
    obtain ⟨a, ha⟩ := h b (.head _)
    obtain ⟨ys, h1, h2⟩ := choose_list l fun x hx => h x (.tail _ hx)
    refine ⟨a :: ys, by simp [h1], fun i x y hx hy => ?_⟩
    cases i with
    | zero => simp at hx hy; subst hx; subst hy; exact ha
    | succ i => exact h2 i x y (by simpa using hx) (by simpa using hy)
/-- A slice that is read: its elements. -/
theorem arg_list {α : Type} {t e : TypeId} {sz : Nat} {fuel : Nat} {v : Value} {x : DataW H × List MemPlace} (ht : P.underlying t = some (.slice e)) (hc : P.cellsOf e = sz) (hpos : 0 < sz) (enc : α → List Value) (φ : α → Prop) (henc : ∀ a, (enc a).length = sz)
    (hel : ∀ fuel r y, DataW.trod enc0 P w base spare held fuel e r = some y → ∃ a, φ a ∧ r = enc a) (h : DataW.trod enc0 P w base spare held fuel t [v] = some x) :
    ∃ A c, ∃ ys : List α, v = .slice A ys.length c ∧ ys.length ≤ maxLen ∧ (∀ a ∈ ys, φ a) ∧ Sl w (.slice A ys.length c) sz ys.length (flat enc ys) := by
  rcases DataW.trod_slice ht h with ⟨h0, _⟩ | ⟨a, len, cap, elems, rest, n, _, hcs, _, hb, hl, hm, hlen, hel2, _, _⟩
  · simp at h0; subst h0
    exact ⟨none, 0, [], rfl, by simp, by simp, by simp [flat], none, 0, rfl, Nat.le_refl _, .inl rfl⟩
  · simp at hcs; subst hcs
    have each : ∀ i ∈ List.range len, ∃ b : α, φ b ∧ w.cells? base (a.add (i * sz)) sz = some (enc b) := by
      intro i hi
      have hi := List.mem_range.1 hi
      have := hel2 i hi
      rw [hc, List.getElem?_eq_getElem (by omega)] at this
      cases hcell : w.cells? base (a.add (i * sz)) sz with
      | none => rw [hcell] at this; cases this
      | some r =>
        rw [hcell] at this
        obtain ⟨b, hb, rfl⟩ := hel n r _ this
        exact ⟨b, hb, rfl⟩
    obtain ⟨ys, has, hR⟩ := choose_list (List.range len) each
    rw [List.length_range] at has
    have hget : ∀ (i : Nat) (b : α), ys[i]? = some b → φ b ∧ w.cells? base (a.add (i * sz)) sz = some (enc b) := by
      intro i b hib
      have hi := (List.getElem?_eq_some_iff.1 hib).1
      exact hR i i b (List.getElem?_range (by omega)) hib
    have hcellat : ∀ (i : Nat) (b : α) (j : Nat), ys[i]? = some b → j < sz → w.cell? ((a.add (i * sz)).add j) = (enc b)[j]? := by
      intro i b j hib hj
      exact (World.cells?_some (hget i b hib).2).2.2 j hj
    subst has
    refine ⟨some a, cap, ys, rfl, by omega, fun b hb => ?_, ?_⟩
    · obtain ⟨i, hi⟩ := List.mem_iff_getElem?.1 hb
      exact (hget i b hi).1
    · refine ⟨flat_length henc ys, some a, cap, rfl, hl, ?_⟩
      cases ys with
      | nil => exact .inl rfl
      | cons b bs =>
        right
        have h00 := hcellat 0 b 0 rfl hpos
        obtain ⟨v0, hv0⟩ : ∃ v0, (enc b)[0]? = some v0 := ⟨_, List.getElem?_eq_getElem (by rw [henc]; exact hpos)⟩
        rw [hv0, Nat.zero_mul] at h00
        have hadd0 : ∀ y : Addr, y.add 0 = y := fun y => by simp [Addr.add]
        rw [hadd0, hadd0] at h00
        obtain ⟨hsp, hblk⟩ := cell_spot h00
        obtain ⟨g, o, sp⟩ := a
        simp only at hsp hblk
        subst hsp
        refine ⟨g, o, rfl, hblk, fun j hj => ?_⟩
        have hi : j / sz < (b :: bs).length := Nat.div_lt_of_lt_mul (by rw [Nat.mul_comm]; exact hj)
        have hib : (b :: bs)[j / sz]? = some (b :: bs)[j / sz] := List.getElem?_eq_getElem hi
        have hmod : j % sz < sz := Nat.mod_lt _ hpos
        have hc2 := hcellat _ _ _ hib hmod
        have hfc := flat_cell henc hib (j % sz) hmod
        have hjj : j / sz * sz + j % sz = j := by rw [Nat.mul_comm]; exact Nat.div_add_mod j sz
        rw [hjj] at hfc
        rw [hfc, ← hc2]
        congr 1
        have ha : ∀ (o k : Nat), (⟨g, o, none⟩ : Addr).add k = ⟨g, o + k, none⟩ := fun o k => by unfold Addr.add; split <;> simp_all
        rw [ha, ha]
        congr 1
        omega
end
end Go.Dk
namespace Go.Proofs.Ytjebpngdinbckaa
open Go.Dk Go.ChangeShapes Go.WideShapes Go.ChangeAt Go.RowKit Go.ChangeMaps
def okI (n : Int) : Prop := -9223372036854775808 ≤ n ∧ n < 9223372036854775808
theorem flat_one (l : List Int) : flat (fun n => [Value.int .i64 n]) l = intsI l := by
  induction l with
  | nil => rfl
  | cons n l ih =>
    have : flat (fun n => [Value.int .i64 n]) (n :: l) = .int .i64 n :: flat (fun n => [Value.int .i64 n]) l := rfl
    rw [this, ih]; rfl
/-- An ask, as it lies. -/
structure AskV where
  kd : Int
  l : Int
  lo : Int
  hi : Int
  kv : Value
def encA (a : AskV) : List Value := [.int .i64 a.kd, .int .i64 a.l, .int .i64 a.lo, .int .i64 a.hi, a.kv]
theorem encA_length (a : AskV) : (encA a).length = 5 := rfl
/-- Whole numbers that lie in a row. -/
def IntsAt (w : World) (v : Value) (ks : List Int) : Prop := ∃ B c, v = .slice B ks.length c ∧ ks.length ≤ 9223372036854775807 ∧ (∀ k ∈ ks, okI k) ∧ Sl w (.slice B ks.length c) 1 ks.length (intsI ks)
def AskAt (w : World) (a : AskV) : Prop := okI a.kd ∧ okI a.l ∧ okI a.lo ∧ okI a.hi ∧ ∃ ks, IntsAt w a.kv ks
section
variable {H : Type} {enc : TypeId × Value → H} {w : World} {base b : Nat} {spare : Nat → Bool} {held : Bool}
theorem int_at {fuel : Nat} {r : List Value} {x : DataW H × List MemPlace} (h : DataW.trod enc Try.prog w base spare held fuel 3 r = some x) : ∃ n, okI n ∧ r = [.int .i64 n] := by
  obtain ⟨m, hc, rfl, hw⟩ := DataW.trod_int Try.underlying3 h
  simp [Lit.wf, IntKind.min, IntKind.max, IntKind.signed, IntKind.bits] at hw
  exact ⟨m, ⟨by omega, by omega⟩, hc⟩
set_option maxRecDepth 100000 in
theorem cells3 : Try.prog.cellsOf 3 = 1 := by kernel_rfl
theorem cells32 : Try.prog.cellsOf 32 = 1 := by kernel_rfl
theorem cells66 : Try.prog.cellsOf 66 = 5 := by kernel_rfl
set_option maxRecDepth 100000 in
theorem ints_at {fuel : Nat} {v : Value} {x : DataW H × List MemPlace} (h : DataW.trod enc Try.prog w base spare held fuel 32 [v] = some x) : ∃ ks, IntsAt w v ks := by
  obtain ⟨A, c, ks, hv, hl, hok, hs⟩ := arg_list Try.underlying32 cells3 (by decide) (fun n : Int => [Value.int .i64 n]) okI (fun _ => rfl) (fun fuel r y hy => int_at hy) h
  rw [flat_one] at hs
  exact ⟨ks, A, c, hv, hl, hok, hs⟩
set_option maxRecDepth 100000 in
theorem ask_at {fuel : Nat} {r : List Value} {x : DataW H × List MemPlace} (h : DataW.trod enc Try.prog w base spare held fuel 66 r = some x) : ∃ a, AskAt w a ∧ r = encA a := by
  obtain ⟨xs, n, _, _, hl, hlen, hf⟩ := DataW.trod_struct Try.underlying66 h
  rw [cells66] at hl
  have f0 : DataW.trod enc Try.prog w base spare held n 3 ((r.drop 0).take (Try.prog.cellsOf 3)) = xs[0]? := hf 0 _ rfl
  rw [cells3] at f0
  have f1 : DataW.trod enc Try.prog w base spare held n 3 ((r.drop 1).take (Try.prog.cellsOf 3)) = xs[1]? := hf 1 _ rfl
  rw [cells3] at f1
  have f2 : DataW.trod enc Try.prog w base spare held n 3 ((r.drop 2).take (Try.prog.cellsOf 3)) = xs[2]? := hf 2 _ rfl
  rw [cells3] at f2
  have f3 : DataW.trod enc Try.prog w base spare held n 3 ((r.drop 3).take (Try.prog.cellsOf 3)) = xs[3]? := hf 3 _ rfl
  rw [cells3] at f3
  have f4 : DataW.trod enc Try.prog w base spare held n 32 ((r.drop 4).take (Try.prog.cellsOf 32)) = xs[4]? := hf 4 _ rfl
  rw [cells32] at f4
  match r, hl, xs, hlen, f0, f1, f2, f3, f4 with
  | [c0, c1, c2, c3, c4], _, [y0, y1, y2, y3, y4], _, f0, f1, f2, f3, f4 =>
    obtain ⟨n0, k0, e0⟩ := int_at f0
    obtain ⟨n1, k1, e1⟩ := int_at f1
    obtain ⟨n2, k2, e2⟩ := int_at f2
    obtain ⟨n3, k3, e3⟩ := int_at f3
    obtain ⟨ks, hk⟩ := ints_at f4
    simp at e0 e1 e2 e3
    subst e0; subst e1; subst e2; subst e3
    exact ⟨⟨n0, n1, n2, n3, c4⟩, ⟨k0, k1, k2, k3, ks, hk⟩, rfl⟩
/-- Asks that lie in a row. -/
def AsksAt (w : World) (v : Value) (l : List AskV) : Prop := ∃ B c, v = .slice B l.length c ∧ l.length ≤ 9223372036854775807 ∧ (∀ a ∈ l, AskAt w a) ∧ Sl w (.slice B l.length c) 5 l.length (flat encA l)
set_option maxRecDepth 100000 in
theorem asks_at {fuel : Nat} {v : Value} {x : DataW H × List MemPlace} (h : DataW.trod enc Try.prog w base spare held fuel 58 [v] = some x) : ∃ l, AsksAt w v l := by
  obtain ⟨A, c, l, hv, hl, hok, hs⟩ := arg_list Try.underlying58 cells66 (by decide) encA (AskAt w) encA_length (fun fuel r y hy => ask_at hy) h
  exact ⟨l, A, c, hv, hl, hok, hs⟩
set_option maxRecDepth 100000 in
theorem arg_ints {v : Value} {d : DataW H} {ps : List MemPlace} (hval : Value.okWide Try.prog w .any b 32 v) (h : DataW.Trod enc Try.prog w base spare held 32 v d ps) : ∃ ks, IntsAt w v ks := by
  obtain ⟨a, l, c, rfl⟩ := okWide_slice Try.underlying32 hval
  obtain ⟨fuel, hf⟩ := h
  exact ints_at hf
set_option maxRecDepth 100000 in
theorem arg_asks {v : Value} {d : DataW H} {ps : List MemPlace} (hval : Value.okWide Try.prog w .any b 58 v) (h : DataW.Trod enc Try.prog w base spare held 58 v d ps) : ∃ l, AsksAt w v l := by
  obtain ⟨a, l, c, rfl⟩ := okWide_slice Try.underlying58 hval
  obtain ⟨fuel, hf⟩ := h
  exact asks_at hf
end
end Go.Proofs.Ytjebpngdinbckaa
end

section
/- The statements of chapter 5: ArenaKeeps. -/
namespace Go.Proofs.Ytjebpngdinbckaa
open Go.Dk
attribute [local irreducible] IntKind.wrap

theorem size66 : sizeT Try.prog 66 = some 5 := by kernel_rfl
theorem size78 : sizeT Try.prog 78 = some 4 := by kernel_rfl
theorem agg78 : aggT Try.prog 78 = some true := by kernel_rfl
theorem agg62 : aggT Try.prog 62 = some false := by kernel_rfl
theorem fa66_0 (g o : Nat) (w : World) : (Instr.fieldAt 66 (.pointer (some ⟨g, o, none⟩)) 0).run Try.prog w = .ok (.pointer (some ⟨g, o, none⟩)) w := by kernel_rfl
theorem fa66_1 (g o : Nat) (w : World) : (Instr.fieldAt 66 (.pointer (some ⟨g, o, none⟩)) 1).run Try.prog w = .ok (.pointer (some ⟨g, o + 1, none⟩)) w := by kernel_rfl
theorem fa66_2 (g o : Nat) (w : World) : (Instr.fieldAt 66 (.pointer (some ⟨g, o, none⟩)) 2).run Try.prog w = .ok (.pointer (some ⟨g, o + 2, none⟩)) w := by kernel_rfl
theorem fa66_3 (g o : Nat) (w : World) : (Instr.fieldAt 66 (.pointer (some ⟨g, o, none⟩)) 3).run Try.prog w = .ok (.pointer (some ⟨g, o + 3, none⟩)) w := by kernel_rfl
theorem fa66_4 (g o : Nat) (w : World) : (Instr.fieldAt 66 (.pointer (some ⟨g, o, none⟩)) 4).run Try.prog w = .ok (.pointer (some ⟨g, o + 4, none⟩)) w := by kernel_rfl
theorem fa78_0 (g : Nat) (w : World) : (Instr.fieldAt 78 (.pointer (some ⟨g, 0, none⟩)) 0).run Try.prog w = .ok (.pointer (some ⟨g, 0, none⟩)) w := by kernel_rfl
theorem fa78_1 (g : Nat) (w : World) : (Instr.fieldAt 78 (.pointer (some ⟨g, 0, none⟩)) 1).run Try.prog w = .ok (.pointer (some ⟨g, 1, none⟩)) w := by kernel_rfl
theorem fa78_2 (g : Nat) (w : World) : (Instr.fieldAt 78 (.pointer (some ⟨g, 0, none⟩)) 2).run Try.prog w = .ok (.pointer (some ⟨g, 2, none⟩)) w := by kernel_rfl
theorem fa78_3 (g : Nat) (w : World) : (Instr.fieldAt 78 (.pointer (some ⟨g, 0, none⟩)) 3).run Try.prog w = .ok (.pointer (some ⟨g, 3, none⟩)) w := by kernel_rfl
theorem ask_1 {la : List AskV} {i : Nat} {a : AskV} (h : la[i]? = some a) : (flat encA la)[i * 5 + 1]? = some (.int .i64 a.l) := flat_cell encA_length h 1 (by decide)
theorem ask_2 {la : List AskV} {i : Nat} {a : AskV} (h : la[i]? = some a) : (flat encA la)[i * 5 + 2]? = some (.int .i64 a.lo) := flat_cell encA_length h 2 (by decide)
theorem ask_3 {la : List AskV} {i : Nat} {a : AskV} (h : la[i]? = some a) : (flat encA la)[i * 5 + 3]? = some (.int .i64 a.hi) := flat_cell encA_length h 3 (by decide)
def encW (n : Nd) : List Value := [.int .i64 n.l, .int .i64 n.lo, .int .i64 n.hi, .bool false]
theorem encW_length (n : Nd) : (encW n).length = 4 := rfl
theorem encW_one (n : Nd) : ∀ v ∈ encW n, v.oneCell' = true := by
  intro v hv
  simp [encW] at hv
  rcases hv with rfl | rfl | rfl | rfl <;> rfl
def z78 : Value := .agg #[.int .i64 0, .int .i64 0, .int .i64 0, .bool false]
theorem zero78 : zeroT Try.prog 78 = some z78 := by kernel_rfl
theorem T62 : SlT Try.prog 62 78 z78 4 32 := ⟨Try.underlying62, by kernel_rfl, rfl, by decide⟩
theorem build78 {a b c : Int} {w : World} {kk : Value → World → Prop} (h : kk (.agg #[.int .i64 a, .int .i64 b, .int .i64 c, .bool false]) w) : buildK Try.prog 78 [(0, .int .i64 a), (1, .int .i64 b), (2, .int .i64 c)] w kk :=
  build_by (fun w => by kernel_rfl) h
theorem reachL_mem {A : Ar} (h : ArInv A) {id : Int} {y : Nat} (hy : y ∈ reachL A id) : ∃ x n, y = x + 2 ∧ slot A x = some n ∧ Rch A id x := by
  unfold reachL reachTo at hy
  obtain ⟨x, hx, rfl⟩ := List.mem_map.1 hy
  have hx := (List.mem_filter.1 hx).2
  have hs := mark_spec h 26 id (List.replicate A.length false) (by have := lvlA_ge A id; omega) (by simp) (fun i n hi => by rw [mb_replicate] at hi; cases hi)
  have hr : Rch A id x := by
    rcases (hs x).1 hx with h' | h'
    · rw [mb_replicate] at h'; cases h'
    · exact h'
  obtain ⟨n, hn⟩ := hr.slot
  exact ⟨x, n, rfl, hn, hr⟩
theorem reachL_len (A : Ar) (id : Int) : (reachL A id).length ≤ A.length := reachTo_le _ _
theorem ok_sweep {room : Int} {A : Ar} (h : ArOk room A) (ks : List Int) : ArOk room (sweepA A ks) :=
  ⟨inv_sweep h.inv ks, by rw [show (sweepA A ks).length = A.length from sweepTo_length _ _ _]; exact h.len, h.room⟩
/-- What was kept: nodes, and their ids. -/
def Good (A : Ar) (ks : List Int) (W : List Nd) (I : List Nat) : Prop := ∀ (j : Nat) (n : Nd), W[j]? = some n → ∃ x, I[j]? = some (x + 2) ∧ slot A x = some n ∧ ∃ k ∈ ks, Rch A k x
theorem good_nil (A : Ar) (ks : List Int) : Good A ks [] [] := by intro j n h; simp at h
theorem good_snoc {A : Ar} {ks : List Int} {W : List Nd} {I : List Nat} (h : Good A ks W I) (hl : W.length = I.length) {x : Nat} {n : Nd} (hs : slot A x = some n) {k : Int} (hk : k ∈ ks) (hr : Rch A k x) : Good A ks (W ++ [n]) (I ++ [x + 2]) := by
  intro j m hj
  by_cases hlt : j < W.length
  · rw [List.getElem?_append_left hlt] at hj
    obtain ⟨y, h1, h2, h3⟩ := h j m hj
    exact ⟨y, by rw [List.getElem?_append_left (by omega)]; exact h1, h2, h3⟩
  · rw [List.getElem?_append_right (by omega)] at hj
    have : j - W.length = 0 := by
      have := (List.getElem?_eq_some_iff.1 hj).1; simp at this; omega
    rw [this] at hj
    simp at hj; subst hj
    exact ⟨x, by rw [List.getElem?_append_right (by omega), ← hl, this]; rfl, hs, k, hk, hr⟩
theorem good_make {A : Ar} {room : Int} (h : ArOk room A) {x : Nat} {n : Nd} (hs : slot A x = some n) : mkA room A n.l n.lo n.hi = (A, ((x + 2 : Nat) : Int), 0) := by
  have hl := h.inv.lev x n hs
  unfold mkA
  rw [if_neg (by omega)]
  simp only [Int.toNat_natCast]
  rw [(findA_some h.inv.uniq).2 hs]
theorem ent10 : enters Try.prog 10 = true := by kernel_rfl
theorem law10_b (room : Int) (hr : room < 0 ∨ 20000 < room) (v1 : Value) (ks : List Int) (B : Option Addr) (c : Nat) (w : World) : Fun Try.prog 10 [.int .i64 room, v1, .slice B ks.length c] w fun v w' => v = .bool true ∧ Same w w' := by
  refine fun_of_W (N := 204) Try.func10 ent10 rfl rfl rfl (by simp) ?_
  have H := Hp.start0 w
  refine call_fn (c64_b _ (by assumption) _) ?_
  rintro _ w1 ⟨rfl, hk⟩
  replace H := H.same hk
  clear hk
  iterate 7 refine cond_yes rfl ?_
  refine bin_eql59z ?_
  iterate 6 refine cond_yes rfl ?_
  refine call_fn (c65 _) ?_
  rintro _ w16 ⟨rfl, hk⟩
  replace H := H.same hk
  clear hk
  refine cond_yes rfl ?_
  exact ⟨rfl, H.keeps⟩
theorem law10_l (room : Int) (h0 : 0 ≤ room) (h1 : room ≤ 20000) (v1 : Value) (ks : List Int) (hk20 : 20 < ks.length) (B : Option Addr) (c : Nat) (w : World) : Fun Try.prog 10 [.int .i64 room, v1, .slice B ks.length c] w fun v w' => v = .bool true ∧ Same w w' := by
  refine fun_of_W (N := 204) Try.func10 ent10 rfl rfl rfl (by simp) ?_
  have H := Hp.start0 w
  refine call_fn (c64_a _ h0 h1 _) ?_
  rintro _ w2 ⟨g, r, rfl, hn⟩
  replace H := H.addNew hn
  clear hn
  iterate 2 refine cond_no rfl ?_
  refine len_sl Try.underlying32 ?_
  iterate 2 refine cond_no rfl ?_
  refine cond_yes (decide_eq_true (by omega)) ?_
  iterate 5 refine cond_no rfl ?_
  refine len_sl Try.underlying32 ?_
  iterate 2 refine cond_no rfl ?_
  refine cond_yes (decide_eq_true (by omega)) ?_
  refine call_fn (c65 _) ?_
  rintro _ w18 ⟨rfl, hk⟩
  replace H := H.same hk
  clear hk
  refine cond_yes (decide_eq_true (by omega)) ?_
  exact ⟨rfl, H.keeps⟩
theorem law10_m (room : Int) (h0 : 0 ≤ room) (h1 : room ≤ 20000) (la : List AskV) (B1 : Option Addr) (c1 : Nat) (ks : List Int) (hk20 : ks.length ≤ 20) (B : Option Addr) (c : Nat) (w : World)
    (hla : ∀ a ∈ la, AskAt w a) (hs1 : Sl w (.slice B1 la.length c1) 5 la.length (flat encA la)) (hks : ∀ k ∈ ks, okI k) (hs2 : Sl w (.slice B ks.length c) 1 ks.length (intsI ks)) : Fun Try.prog 10 [.int .i64 room, .slice B1 la.length c1, .slice B ks.length c] w fun v w' => v = .bool true ∧ Same w w' := by
  refine fun_of_W (N := 204) Try.func10 ent10 rfl rfl rfl (by simp) ?_
  have H := Hp.start0 w
  refine call_fn (c64_a _ h0 h1 _) ?_
  rintro _ w2 ⟨g, r, rfl, hn⟩
  replace H := H.addNew hn
  clear hn
  iterate 2 refine cond_no rfl ?_
  refine len_sl Try.underlying32 ?_
  iterate 2 refine cond_no rfl ?_
  refine cond_no (decide_eq_false (by omega)) ?_
  refine bin_eql59 ?_
  refine cond_no rfl ?_
  refine cut_rule (γ := Value × Ar) _ rfl (fun _ => []) (fun (sv, A) w' => ArOk room A ∧ Hp w (fun _ => False) w' [arR g r sv room A] []) ?_ ?_
  · refine loop_rule (γ := Nat × Value × Ar) _ rfl (fun (i, sv, A) => [(9, .int .i64 (i : Int))])
      (fun (i, sv, A) w' => (i ≤ 60 ∧ ArOk room A) ∧ Hp w (fun _ => False) w' [arR g r sv room A] []) (fun (i, _, _) => 60 - i) (0, .slice none 0 0, []) ⟨rfl, trivial⟩ ⟨⟨Nat.zero_le _, ok_nil h0 h1⟩, H⟩ ?_
    clear H
    rintro ⟨i, sv, A⟩ u w3 ⟨⟨hi, hok⟩, H⟩
    refine len_sl Try.underlying58 ?_
    by_cases hgo : i < la.length ∧ i < 60
    · obtain ⟨g1, o1, rfl⟩ := hs1.A (by omega)
      obtain ⟨a, ha⟩ : ∃ a, la[i]? = some a := ⟨_, List.getElem?_eq_getElem hgo.1⟩
      obtain ⟨_, ka, kb, kc, _⟩ := hla a (List.mem_of_getElem? ha)
      iterate 4 refine cond_yes (decide_eq_true (by omega)) ?_
      refine H.draw fol (by kernel_rfl) ?_
      clear H
      intro w8 H
      refine quiet _ (fun w H => idxAddr_sl Try.underlying58 size66 i rfl hgo.1 (o' := o1 + i * 5) rfl ⟨rfl, rfl⟩) ?_
      refine quiet _ (fun w H => fieldAddr_by (fa66_1 _ _) ⟨rfl, rfl⟩) ?_
      refine quiet _ (fun w H => H.loadSl (i := i * 5 + 1) hs1 agg3 _ (by omega) (ask_1 ha) ⟨rfl, rfl⟩) ?_
      refine quiet _ (fun w H => idxAddr_sl Try.underlying58 size66 i rfl hgo.1 (o' := o1 + i * 5) rfl ⟨rfl, rfl⟩) ?_
      refine quiet _ (fun w H => fieldAddr_by (fa66_2 _ _) ⟨rfl, rfl⟩) ?_
      refine quiet _ (fun w H => H.loadSl (i := i * 5 + 2) hs1 agg3 _ (by omega) (ask_2 ha) ⟨rfl, rfl⟩) ?_
      refine quiet _ (fun w H => idxAddr_sl Try.underlying58 size66 i rfl hgo.1 (o' := o1 + i * 5) rfl ⟨rfl, rfl⟩) ?_
      refine quiet _ (fun w H => fieldAddr_by (fa66_3 _ _) ⟨rfl, rfl⟩) ?_
      refine quiet _ (fun w H => H.loadSl (i := i * 5 + 3) hs1 agg3 _ (by omega) (ask_3 ha) ⟨rfl, rfl⟩) ?_
      refine call_fn (c68 _ _ _ ka.2 kb.2 kc.2 hok _ (H.get 0 rfl)) ?_
      rintro _ w18 ⟨sv1, rfl, ht⟩
      replace H := H.turnBy 0 rfl ht
      refine ⟨.inr rfl, ?_⟩
      exact ⟨(i + 1, sv1, (mkA room A a.l a.lo a.hi).1), by show 60 - (i + 1) < 60 - i; omega, ⟨up (by omega), trivial⟩, ⟨by show i + 1 ≤ 60; omega, ok_mk hok _ _ _⟩, H⟩
    · refine cond_dec (fun h4 => ?_) (fun h4 => ?_)
      · refine cond_yes (decide_eq_true (by assumption)) ?_
        refine cond_yes (decide_eq_true (by assumption)) ?_
        refine cond_no (decide_eq_false (by omega)) ?_
        exact ⟨(sv, A), trivial, hok, H⟩
      · refine cond_no (decide_eq_false (by assumption)) ?_
        refine cond_no (decide_eq_false (by assumption)) ?_
        refine cond_no rfl ?_
        exact ⟨(sv, A), trivial, hok, H⟩
  · clear H
    rintro ⟨sv, A⟩ u w3 ⟨hok, H⟩
    have hAl : A.length ≤ 20000 := by have h3 := hok.len; have h4 := hok.room; omega
    have H := (H.ownNil 3 1).ownNil 78 4
    refine cut_rule (γ := Unit) _ rfl (fun _ => [(10, .slice none 0 0)]) (fun _ w' => Hp.cl H w') ⟨(), ⟨rfl, trivial⟩, H⟩ ?_
    rintro ⟨⟩ u1 w41 H1
    have H : Hp _ _ _ _ _ := H1
    refine cut_rule (γ := Unit) _ rfl (fun _ => [(11, .slice none 0 0)]) (fun _ w' => Hp.cl H w') ⟨(), ⟨rfl, trivial⟩, H⟩ ?_
    rintro ⟨⟩ u2 w42 H2
    have H : Hp _ _ _ _ _ := H2
    refine cut_rule (γ := (Option Addr × Nat) × (Option Addr × Nat) × List Nd × List Nat) _ rfl (fun ((Ba, ca), (Bb, cb), W, I) => [(10, .slice Ba W.length ca), (11, .slice Bb I.length cb)])
      (fun ((Ba, ca), (Bb, cb), W, I) w' => (W.length = I.length ∧ W.length ≤ 400000 ∧ Good A ks W I) ∧ Hp w (fun _ => False) w' [own 78 4 (.slice Ba W.length ca) W.length (flat encW W), own 3 1 (.slice Bb I.length cb) I.length (ints I), arR g r sv room A] []) ?_ ?_
    · refine loop_rule (γ := Nat × (Option Addr × Nat) × (Option Addr × Nat) × List Nd × List Nat) _ rfl
        (fun (i, (Ba, ca), (Bb, cb), W, I) => [(12, .int .i64 (i : Int)), (10, .slice Ba W.length ca), (11, .slice Bb I.length cb)])
        (fun (i, (Ba, ca), (Bb, cb), W, I) w' => (i ≤ ks.length ∧ W.length = I.length ∧ W.length ≤ i * 20000 ∧ Good A ks W I) ∧ Hp w (fun _ => False) w' [own 78 4 (.slice Ba W.length ca) W.length (flat encW W), own 3 1 (.slice Bb I.length cb) I.length (ints I), arR g r sv room A] [])
        (fun (i, _, _, _, _) => ks.length - i) (0, (none, 0), (none, 0), [], []) ⟨rfl, rfl, rfl, trivial⟩ ⟨⟨Nat.zero_le _, rfl, Nat.zero_le _, good_nil A ks⟩, H⟩ ?_
      clear H
      rintro ⟨i, ⟨Ba, ca⟩, ⟨Bb, cb⟩, W, I⟩ u w4 ⟨⟨hi, hWI, hWl, hG⟩, H⟩
      refine len_sl Try.underlying32 ?_
      refine cond_dec (fun h5 => ?_) (fun h5 => ?_)
      · have hi' : i < ks.length := by omega
        obtain ⟨gk, ok2, rfl⟩ := hs2.A (by omega)
        have hkm := List.getElem_mem hi'
        have hkb := hks _ hkm
        refine idxAddr_sl Try.underlying32 (s := 1) size3 i rfl hi' (o' := ok2 + i) (by rw [Nat.mul_one]) ?_
        refine H.loadSl hs2 agg3 _ rfl (intsI_get hi') ?_
        refine call_fn (c74 hok ks[i] hkb.2 _ (H.get 2 rfl)) ?_
        rintro _ w5 ⟨Br, cr, rfl, hn⟩
        replace H := H.addNew hn
        clear hn
        have hrl := reachL_len A ks[i]
        have hRm := fun y (hy : y ∈ reachL A ks[i]) => reachL_mem hok.inv hy
        generalize reachL A ks[i] = R at H hrl hRm ⊢
        refine loop_rule (γ := Nat × (Option Addr × Nat) × (Option Addr × Nat) × List Nd × List Nat) _ rfl
          (fun (k, (Ba, ca), (Bb, cb), W, I) => [(14, .int .i64 (k : Int)), (10, .slice Ba W.length ca), (11, .slice Bb I.length cb)])
          (fun (k, (Ba, ca), (Bb, cb), W, I) w' => (k ≤ R.length ∧ W.length = I.length ∧ W.length ≤ i * 20000 + k ∧ Good A ks W I) ∧ Hp w (fun _ => False) w' [own 3 1 (.slice Br R.length cr) R.length (ints R), own 78 4 (.slice Ba W.length ca) W.length (flat encW W), own 3 1 (.slice Bb I.length cb) I.length (ints I), arR g r sv room A] [])
          (fun (k, _, _, _, _) => R.length - k) (0, (Ba, ca), (Bb, cb), W, I) ⟨rfl, rfl, rfl, trivial⟩ ⟨⟨Nat.zero_le _, hWI, Nat.le_trans hWl (Nat.le_add_right _ _), hG⟩, H⟩ ?_
        clear H hWI hWl hG
        rintro ⟨k, ⟨Bx, cx⟩, ⟨By, cy⟩, W', I'⟩ u w6 ⟨⟨hk, hWI, hWl, hG⟩, H⟩
        refine len_sl Try.underlying32 ?_
        refine cond_dec (fun h6 => ?_) (fun h6 => ?_)
        · have hk' : k < R.length := by omega
          obtain ⟨gr, rfl⟩ := H.ownA 0 rfl (by omega)
          obtain ⟨x, n, hx, hsl, hr⟩ := hRm _ (List.getElem_mem hk')
          have hxl := slot_lt hsl
          have hget : (ints R)[k]? = some (.int .i64 ((x : Int) + 2)) := by rw [ints_get hk', hx]; rfl
          refine idxAddr_sl Try.underlying32 (s := 1) size3 k rfl hk' (o' := k) (by omega) ?_
          refine H.loadOwn 0 rfl agg3 hget ?_
          refine call_fn (c72_a x (by omega) n hsl _ (H.get 3 rfl)) ?_
          rintro _ w9 ⟨rfl, hk⟩
          replace H := H.same hk
          clear hk
          refine cond_no rfl ?_
          refine build78 ?_
          refine H.buildSl T62 (cs := (encW n).toArray) (by decide) (by decide) (by kernel_rfl) ?_
          clear H
          intro g12 w12 H
          refine H.appendBlk 2 0 T62 rfl rfl rfl (encW_one n) (by omega) (by omega) ?_
          clear H
          intro A1 d1 w13 H
          replace H := H.forget
          refine idxAddr_sl Try.underlying32 (s := 1) size3 k rfl hk' (o' := k) (by omega) ?_
          refine H.loadOwn 0 rfl agg3 hget ?_
          refine H.buildOne T32 rfl ?_
          clear H
          intro g16 w16 H
          refine H.appendOne 2 T32 rfl rfl (by omega) (by omega) ?_
          clear H
          intro A2 d2 w17 H
          have hlw : (W' ++ [n]).length = W'.length + 1 := by simp
          have hli : (I' ++ [x + 2]).length = I'.length + 1 := by simp
          have H : Hp w (fun _ => False) w17 [own 3 1 (.slice (some ⟨gr, 0, none⟩) R.length cr) R.length (ints R), own 78 4 (.slice A1 (W' ++ [n]).length d1) (W' ++ [n]).length (flat encW (W' ++ [n])), own 3 1 (.slice A2 (I' ++ [x + 2]).length d2) (I' ++ [x + 2]).length (ints (I' ++ [x + 2])), arR g r sv room A] [] := by
            rw [hlw, hli, flat_snoc, ← ints_snoc]; exact H
          exact ⟨(k + 1, (A1, d1), (A2, d2), W' ++ [n], I' ++ [x + 2]), by show R.length - (k + 1) < R.length - k; omega, ⟨up (by omega), by rw [hlw]; rfl, by rw [hli]; rfl, trivial⟩, ⟨by show k + 1 ≤ R.length; omega, by rw [hlw, hli, hWI], by rw [hlw]; show W'.length + 1 ≤ i * 20000 + (k + 1); omega, good_snoc hG hWI hsl hkm hr⟩, H⟩
        · exact ⟨(i + 1, (Bx, cx), (By, cy), W', I'), by show ks.length - (i + 1) < ks.length - i; omega, ⟨up (by omega), rfl, rfl, trivial⟩, ⟨by show i + 1 ≤ _; omega, hWI, by show W'.length ≤ (i + 1) * 20000; omega, hG⟩, H.forget⟩
      · exact ⟨((Ba, ca), (Bb, cb), W, I), ⟨rfl, rfl, trivial⟩, ⟨hWI, by omega, hG⟩, H⟩
    · clear H
      rintro ⟨⟨Ba, ca⟩, ⟨Bb, cb⟩, W, I⟩ u w4 ⟨⟨hWI, hWl, hG⟩, H⟩
      have hA2 := ok_sweep hok ks
      refine call_fn (c66 hok ks (fun k hk => (hks k hk).2) (by omega) (S := fun x => x < w.heap.size) _ (H.get 2 rfl) ((sl _ _ _ _ _).stable w _ (fun x hx => H.keeps.old x hx id) hs2) (fun x hx => Nat.lt_of_lt_of_le hx H.keeps.size)
        (fun x hx hf => by rcases H.new _ (.tail _ (.tail _ (.head _))) x hf with h | h; · omega
                           · exact h)) ?_
      rintro _ w5 ⟨rfl, ht⟩
      replace H := H.turnBy 2 rfl ht
      clear ht
      have hsl : ∀ (x : Nat) (n : Nd), slot A x = some n → (∃ k ∈ ks, Rch A k x) → slot (sweepA A ks) x = some n := fun x n h1 h2 => (slot_sweep hok.inv ks x n).2 ⟨h1, h2⟩
      have hsz : (sweepA A ks).length = A.length := sweepTo_length _ _ _
      generalize sweepA A ks = A2 at H hA2 hsl hsz
      refine call_fn (c70 _ (H.get 2 rfl)) ?_
      rintro _ w6 ⟨rfl, hk⟩
      replace H := H.same hk
      clear hk
      refine cut_rule (γ := Value) _ rfl (fun _ => []) (fun sv w' => Hp w (fun _ => False) w' [own 78 4 (.slice Ba W.length ca) W.length (flat encW W), own 3 1 (.slice Bb I.length cb) I.length (ints I), arR g r sv room A2] []) ?_ ?_
      · refine loop_rule (γ := Nat × Value) _ rfl (fun (j, _) => [(20, .int .i64 (j : Int))])
          (fun (j, sv) w' => j ≤ I.length ∧ Hp w (fun _ => False) w' [own 78 4 (.slice Ba W.length ca) W.length (flat encW W), own 3 1 (.slice Bb I.length cb) I.length (ints I), arR g r sv room A2] []) (fun (j, _) => I.length - j) (0, sv) ⟨rfl, trivial⟩ ⟨Nat.zero_le _, H⟩ ?_
        clear H
        rintro ⟨j, sv2⟩ u w7 ⟨hj, H⟩
        refine len_sl Try.underlying32 ?_
        refine cond_dec (fun h7 => ?_) (fun h7 => ?_)
        · have hj' : j < I.length := by omega
          obtain ⟨n, hn⟩ : ∃ n, W[j]? = some n := ⟨_, List.getElem?_eq_getElem (by omega)⟩
          obtain ⟨x, hx, hs, hr⟩ := hG j n hn
          have hs2' := hsl x n hs hr
          have hxl := slot_lt hs2'
          have hmk := good_make hA2 hs2'
          have hlv := hA2.inv.lev x n hs2'
          have hr1 := lvlA_range (A := A2) (id := n.lo) (by omega)
          have hr2 := lvlA_range (A := A2) (id := n.hi) (by omega)
          have hget : (ints I)[j]? = some (.int .i64 ((x : Int) + 2)) := by rw [ints, List.getElem?_map, hx]; rfl
          obtain ⟨ga, rfl⟩ := H.ownA 0 rfl (by omega)
          obtain ⟨gb, rfl⟩ := H.ownA 1 rfl (by omega)
          refine idxAddr_sl Try.underlying62 (s := 4) size78 j rfl (by omega) (o' := j * 4) (by omega) ?_
          refine H.loadOwnAgg 0 rfl encW_length agg78 size78 j rfl hn ?_
          refine H.alloc 78 zero78 rfl ?_
          clear H
          intro g10 w10 H
          refine H.storeAll 0 rfl size78 rfl (fun v hv => encW_one n v hv) ?_
          clear H
          intro w11 H
          refine idxAddr_sl Try.underlying32 (s := 1) size3 j rfl hj' (o' := j) (by omega) ?_
          refine H.loadOwn 2 rfl agg3 hget ?_
          refine call_fn (c72_a x (by omega) n hs2' _ (H.get 3 rfl)) ?_ 
          rintro _ w12 ⟨rfl, hk⟩ 
          replace H := H.same hk 
          clear hk
          refine fieldAddr_by (fa78_0 _) ?_
          refine H.load 0 rfl agg3 rfl ?_
          refine fieldAddr_by (fa78_1 _) ?_
          refine H.load 0 rfl agg3 rfl ?_
          refine fieldAddr_by (fa78_2 _) ?_
          refine H.load 0 rfl agg3 rfl ?_
          have htop := hA2.inv.top x n hs2'
          refine call_fn (c68 (n.l : Int) (n.lo : Int) (n.hi : Int) (by omega) (by omega) (by omega) hA2 _ (H.get 3 rfl)) ?_
          rintro _ w13 ⟨sv3, rfl, ht⟩
          replace H := H.turnBy 3 rfl ht
          clear ht
          rw [hmk] at H ⊢
          iterate 2 refine cond_no (by decide) ?_
          refine fieldAddr_by (fa78_0 _) ?_
          refine cond_no (by decide) ?_
          refine H.load 0 rfl agg3 rfl ?_
          iterate 2 refine cond_no (by decide) ?_
          iterate 2 refine cond_no (bne_eq_false_iff_eq.2 (by omega)) ?_
          refine fieldAddr_by (fa78_1 _) ?_
          refine cond_no (bne_eq_false_iff_eq.2 (by omega)) ?_
          refine H.load 0 rfl agg3 rfl ?_
          iterate 4 refine cond_no (bne_eq_false_iff_eq.2 (by omega)) ?_
          refine fieldAddr_by (fa78_2 _) ?_
          refine cond_no (bne_eq_false_iff_eq.2 (by omega)) ?_
          refine H.load 0 rfl agg3 rfl ?_
          iterate 6 refine cond_no (bne_eq_false_iff_eq.2 (by omega)) ?_
          refine idxAddr_sl Try.underlying32 (s := 1) (by kernel_rfl) _ rfl (by first | omega | decide | (simp only [IntKind.wrap_i64]; omega) | (rw [bls, List.length_map]; omega) | (rw [bytesV_length]; omega) | (rw [ints_length]; omega) | (simp; done) | (simp; omega)) (o' := _) (by rw [Nat.zero_add, Nat.mul_one]) ?_
          refine cond_no (bne_eq_false_iff_eq.2 (by omega)) ?_
          refine H.loadOwn 2 rfl agg3 hget ?_
          iterate 2 refine cond_no (bne_eq_false_iff_eq.2 (by omega)) ?_
          iterate 3 refine cond_no (by simp) ?_
          refine cond_no rfl ?_
          exact ⟨(j+1, sv3), by show I.length-(j+1) < I.length-j; omega, ⟨up (by omega), trivial⟩, by show j+1 ≤ _; omega, H.forget⟩
        · exact ⟨sv2, trivial, H⟩
      · clear H
        rintro sv2 u w7 H
        refine call_fn (c70 _ (H.get 2 rfl)) ?_
        rintro _ w8 ⟨rfl, hk⟩
        replace H := H.same hk
        clear hk
        refine cond_yes (beq_self_eq_true _) ?_
        refine call_fn (c65 _) ?_ 
        rintro _ w10 ⟨rfl, hk⟩ 
        replace H := H.same hk 
        clear hk
        refine cond_yes (beq_self_eq_true _) ?_
        exact ⟨rfl, H.keeps⟩
theorem law10 (room : Int) (v1 v2 : Value) (la : List AskV) (ks : List Int) (w : World) (h1 : AsksAt w v1 la) (h2 : IntsAt w v2 ks) : Fun Try.prog 10 [.int .i64 room, v1, v2] w fun v w' => v = .bool true ∧ Same w w' := by
  obtain ⟨B2, c2, rfl, hl2, hk2, hs2⟩ := h2
  rcases Int.lt_or_le room 0 with h0 | h0
  · exact law10_b room (.inl h0) v1 ks B2 c2 w
  rcases Int.lt_or_le 20000 room with h3 | h3
  · exact law10_b room (.inr h3) v1 ks B2 c2 w
  rcases Nat.lt_or_ge 20 ks.length with h4 | h4
  · exact law10_l room h0 h3 v1 ks h4 B2 c2 w
  obtain ⟨B1, c1, rfl, hl1, hk1, hs1⟩ := h1
  exact law10_m room h0 h3 la B1 c1 ks h4 B2 c2 w hk1 hs1 hk2 hs2
end Go.Proofs.Ytjebpngdinbckaa
end

section
/- The reference's arenas: how they lie in memory; level, Len. -/
namespace Go.Proofs.Ytjebpngdinbckaa
open Go.Dk
attribute [local irreducible] IntKind.wrap

/-- A node of a reference's arena, and whether it is gone. -/
abbrev RN := Nd × Bool
def encN (x : RN) : List Value := [.int .i64 x.1.l, .int .i64 x.1.lo, .int .i64 x.1.hi, .bool x.2]
theorem encN_length (x : RN) : (encN x).length = 4 := rfl
theorem encN_one (x : RN) : ∀ v ∈ encN x, v.oneCell' = true := by
  intro v hv
  simp [encN] at hv
  rcases hv with rfl | rfl | rfl | rfl <;> rfl
def ab (N : List RN) : Ar := N.map fun x => if x.2 then none else some x.1
theorem ab_length (N : List RN) : (ab N).length = N.length := List.length_map ..
theorem slot_ab {N : List RN} {i : Nat} {x : RN} (h : N[i]? = some x) : slot (ab N) i = if x.2 then none else some x.1 := by
  unfold slot ab
  rw [List.getD_eq_getElem?_getD, List.getElem?_map, h]; rfl
theorem node_0 {N : List RN} {i : Nat} {x : RN} (h : N[i]? = some x) : (flat encN N)[i * 4]? = some (.int .i64 x.1.l) := by have := flat_cell encN_length h 0 (by decide); exact this
theorem node_1 {N : List RN} {i : Nat} {x : RN} (h : N[i]? = some x) : (flat encN N)[i * 4 + 1]? = some (.int .i64 x.1.lo) := flat_cell encN_length h 1 (by decide)
theorem node_2 {N : List RN} {i : Nat} {x : RN} (h : N[i]? = some x) : (flat encN N)[i * 4 + 2]? = some (.int .i64 x.1.hi) := flat_cell encN_length h 2 (by decide)
theorem node_3 {N : List RN} {i : Nat} {x : RN} (h : N[i]? = some x) : (flat encN N)[i * 4 + 3]? = some (.bool x.2) := flat_cell encN_length h 3 (by decide)
theorem size64 : sizeT Try.prog 64 = some 2 := by kernel_rfl
theorem agg64 : aggT Try.prog 64 = some true := by kernel_rfl
theorem fa64_0 (g : Nat) (w : World) : (Instr.fieldAt 64 (.pointer (some ⟨g, 0, none⟩)) 0).run Try.prog w = .ok (.pointer (some ⟨g, 0, none⟩)) w := by kernel_rfl
theorem fa64_1 (g : Nat) (w : World) : (Instr.fieldAt 64 (.pointer (some ⟨g, 0, none⟩)) 1).run Try.prog w = .ok (.pointer (some ⟨g, 1, none⟩)) w := by kernel_rfl
theorem ga78_0 (g o : Nat) (w : World) : (Instr.fieldAt 78 (.pointer (some ⟨g, o, none⟩)) 0).run Try.prog w = .ok (.pointer (some ⟨g, o, none⟩)) w := by kernel_rfl
theorem ga78_3 (g o : Nat) (w : World) : (Instr.fieldAt 78 (.pointer (some ⟨g, o, none⟩)) 3).run Try.prog w = .ok (.pointer (some ⟨g, o + 3, none⟩)) w := by kernel_rfl
/-- A reference's arena as a value. -/
def rc (room : Int) (v : Value) : Array Value := #[.int .i64 room, v]
def rv (room : Int) (v : Value) : Value := .agg (rc room v)

theorem lvlA_end (A : Ar) {id : Int} (h : id = 0 ∨ id = 1) : lvlA A id = 24 := by unfold lvlA; rw [if_pos h]
theorem lvlA_neg (A : Ar) {id : Int} (h : id < 0) : lvlA A id = -1 := by unfold lvlA; rw [if_neg (by omega), if_neg (by omega)]
theorem lvlA_far (A : Ar) {id : Int} (h : (A.length : Int) + 2 ≤ id) : lvlA A id = -1 := by unfold lvlA; rw [if_neg (by omega), if_pos (by omega), slot_none (by omega)]
theorem lvlA_at {N : List RN} {i : Nat} {x : RN} (h : N[i]? = some x) : lvlA (ab N) ((i : Int) + 2) = if x.2 then -1 else (x.1.l : Int) := by
  unfold lvlA
  rw [if_neg (by omega), if_pos (by omega), show ((i : Int) + 2 - 2).toNat = i by omega, slot_ab h]
  cases x.2 <;> rfl
theorem wlen2 {n : Nat} (h : n ≤ 1000000) : IntKind.i64.wrap ((n : Int) + 2) = ((n + 2 : Nat) : Int) := by rw [IntKind.wrap_i64]; omega
theorem wsub2 {i : Nat} (h : i ≤ 1000000) : IntKind.i64.wrap ((i : Int) + 2 - 2) = (i : Int) := by rw [IntKind.wrap_i64]; omega
theorem ent167 : enters Try.prog 167 = true := by kernel_rfl
theorem c167 (room : Int) (N : List RN) (B : Option Addr) (c : Nat) (id : Int) (w : World) (hl : N.length ≤ 1000000) (hs : Sl w (.slice B N.length c) 4 N.length (flat encN N)) :
    Fun Try.prog 167 [rv room (.slice B N.length c), .int .i64 id] w fun v w' => v = .int .i64 (lvlA (ab N) id) ∧ Same w w' := by
  refine fun_of_W (N := 37) Try.func167 ent167 rfl rfl rfl (by simp) ?_
  have H := Hp.start0 w
  refine H.box 64 (rv _ _) (cs := rc _ _) rfl ?_
  clear H
  intro g1 w1 H
  refine cond_beq (fun h2 => ?_) (fun h2 => ?_)
  · refine cond_yes (beq_iff_eq.2 (by assumption)) ?_
    refine cond_yes (beq_iff_eq.2 (by assumption)) ?_
    refine cond_yes rfl ?_
    exact ⟨by rw [lvlA_end _ (.inl h2)]; rfl, H.keeps⟩
  · refine cond_no (beq_eq_false_iff_ne.2 (by assumption)) ?_
    refine cond_no (beq_eq_false_iff_ne.2 (by assumption)) ?_
    refine cond_beq (fun h9 => ?_) (fun h9 => ?_)
    · exact ⟨by rw [lvlA_end _ (.inr h9)]; rfl, H.keeps⟩
    · refine cond_dec (fun h11 => ?_) (fun h11 => ?_)
      · refine cond_yes (decide_eq_true (by assumption)) ?_
        iterate 5 refine cond_yes (decide_eq_true (by assumption)) ?_
        iterate 9 refine cond_yes rfl ?_
        exact ⟨by rw [lvlA_neg _ h11]; rfl, H.keeps⟩
      · refine cond_no (decide_eq_false (by assumption)) ?_
        refine fieldAddr_by (fa64_1 _) ?_
        refine cond_no (decide_eq_false (by assumption)) ?_
        refine H.load 0 rfl agg62 rfl ?_
        refine cond_no (decide_eq_false (by assumption)) ?_
        refine len_sl Try.underlying62 ?_
        iterate 3 refine cond_no (decide_eq_false (by assumption)) ?_
        refine cond_dec (fun h37 => ?_) (fun h37 => ?_)
        · refine cond_yes (decide_eq_true (by assumption)) ?_
          iterate 6 refine cond_yes (decide_eq_true (by assumption)) ?_
          refine cond_yes rfl ?_
          rw [wlen2 hl] at h37
          exact ⟨by rw [lvlA_far _ (by rw [ab_length]; omega)]; rfl, H.keeps⟩
        · rw [wlen2 hl] at h37
          obtain ⟨i, rfl⟩ : ∃ i : Nat, id = (i : Int) + 2 := ⟨(id - 2).toNat, by omega⟩
          have hi : i < N.length := by omega
          obtain ⟨x, hx⟩ : ∃ x, N[i]? = some x := ⟨_, List.getElem?_eq_getElem hi⟩
          have hlv := lvlA_at hx
          have hw2 := wsub2 (i := i) (by omega)
          obtain ⟨g0, o0, rfl⟩ := hs.A (by omega)
          refine fieldAddr_by (fa64_1 _) ?_
          refine cond_no (decide_eq_false (by rw [wlen2 hl]; omega)) ?_
          refine H.load 0 rfl agg62 rfl ?_
          iterate 3 refine cond_no (decide_eq_false (by rw [wlen2 hl]; omega)) ?_
          refine idxAddr_sl Try.underlying62 (s := 4) size78 i hw2 hi (o' := o0 + i * 4) rfl ?_
          refine cond_no (decide_eq_false (by rw [wlen2 hl]; omega)) ?_
          refine fieldAddr_by (ga78_3 _ _) ?_
          refine cond_no (decide_eq_false (by rw [wlen2 hl]; omega)) ?_
          refine H.loadSl (i := i * 4 + 3) hs agg4 _ (by omega) (node_3 hx) ?_
          refine cond_no (decide_eq_false (by rw [wlen2 hl]; omega)) ?_
          refine cond_split (fun h8 => ?_) (fun h8 => ?_)
          · rw [if_pos h8] at hlv; exact ⟨by rw [hlv]; rfl, H.keeps⟩
          · refine fieldAddr_by (fa64_1 _) ?_
            refine H.load 0 rfl agg62 rfl ?_
            refine idxAddr_sl Try.underlying62 (s := 4) size78 i hw2 hi (o' := o0 + i * 4) rfl ?_
            refine fieldAddr_by (ga78_0 _ _) ?_
            refine H.loadSl (i := i * 4) hs agg3 _ (by omega) (node_0 hx) ?_
            rw [if_neg (by rw [h8]; decide)] at hlv; exact ⟨by rw [hlv]; rfl, H.keeps⟩


theorem ent71 : enters Try.prog 71 = true := by kernel_rfl
theorem live_snoc {N : List RN} {i : Nat} {x : RN} (h : N[i]? = some x) : liveA ((ab N).take (i + 1)) = liveA ((ab N).take i) + if x.2 then 0 else 1 := by
  have hi := (List.getElem?_eq_some_iff.1 h).1
  have h' : (ab N)[i]? = some (if x.2 then none else some x.1) := by unfold ab; rw [List.getElem?_map, h]; rfl
  unfold liveA
  rw [List.take_add_one, h', List.countP_append]
  cases x.2 <;> rfl
theorem c71 (room : Int) (N : List RN) (B : Option Addr) (c : Nat) (w : World) (hl : N.length ≤ 1000000) (hs : Sl w (.slice B N.length c) 4 N.length (flat encN N)) :
    Fun Try.prog 71 [rv room (.slice B N.length c)] w fun v w' => v = .int .i64 (liveA (ab N) : Int) ∧ Same w w' := by
  refine fun_of_W (N := 22) Try.func71 ent71 rfl rfl rfl (by simp) ?_
  have H := Hp.start0 w
  refine H.box 64 (rv _ _) (cs := rc _ _) rfl ?_
  clear H
  intro g1 w1 H
  refine cut_rule (γ := Unit) _ rfl (fun _ => [(3, .int .i64 0)]) (fun _ w' => Hp.cl H w') ⟨(), ⟨rfl, trivial⟩, H⟩ ?_
  rintro ⟨⟩ u1 w2 H1
  replace H : Hp _ _ _ _ _ := H1
  clear H1
  refine cut_rule (γ := Unit) _ rfl (fun _ => [(3, .int .i64 (liveA (ab N) : Int))]) (fun _ w' => Hp.cl H w') ?_ ?_
  · refine loop_rule (γ := Nat) _ rfl (fun i => [(4, .int .i64 (i : Int)), (3, .int .i64 (liveA ((ab N).take i) : Int))]) (fun i w' => i ≤ N.length ∧ Hp.cl H w') (fun i => N.length - i) 0 ⟨rfl, rfl, trivial⟩ ⟨Nat.zero_le _, H⟩ ?_
    rintro i u w2 ⟨hi, H1⟩
    have H : Hp _ _ _ _ _ := H1
    have hcl : liveA ((ab N).take i) ≤ 1000000 := Nat.le_trans List.countP_le_length (by rw [List.length_take]; omega)
    refine fieldAddr_by (fa64_1 _) ?_
    refine H.load 0 rfl agg62 rfl ?_
    refine len_sl Try.underlying62 ?_
    refine cond_dec (fun h7 => ?_) (fun h7 => ?_)
    · obtain ⟨x, hx⟩ : ∃ x, N[i]? = some x := ⟨_, List.getElem?_eq_getElem (by omega)⟩
      have hlv := live_snoc hx
      obtain ⟨g0, o0, rfl⟩ := hs.A (by omega)
      refine fieldAddr_by (fa64_1 _) ?_
      refine H.load 0 rfl agg62 rfl ?_
      refine idxAddr_sl Try.underlying62 (s := 4) size78 i rfl (by omega) (o' := o0 + i * 4) rfl ?_
      refine fieldAddr_by (ga78_3 _ _) ?_
      refine H.loadSl (i := i * 4 + 3) hs agg4 _ (by omega) (node_3 hx) ?_
      refine cond_split (fun h3 => ?_) (fun h3 => ?_)
      · simp at h3
        rw [h3, if_neg (by decide)] at hlv
        have e : Value.int .i64 (IntKind.i64.wrap ((liveA ((ab N).take i) : Int) + 1)) = .int .i64 (liveA ((ab N).take (i + 1)) : Int) := by rw [hlv]; exact up (by omega)
        exact ⟨i + 1, by show N.length - (i + 1) < N.length - i; omega, ⟨up (by omega), e, trivial⟩, by show i + 1 ≤ _; omega, H⟩
      · simp at h3
        rw [h3, if_pos rfl] at hlv
        exact ⟨i + 1, by show N.length - (i + 1) < N.length - i; omega, ⟨up (by omega), by rw [hlv]; rfl, trivial⟩, by show i + 1 ≤ _; omega, H⟩
    · have : i = N.length := by omega
      subst this
      rw [List.take_of_length_le (by rw [ab_length]; omega)]
      exact ⟨(), ⟨rfl, trivial⟩, H1⟩
  · rintro ⟨⟩ u w2 H1
    exact ⟨rfl, H1.keeps⟩
end Go.Proofs.Ytjebpngdinbckaa
end

section
/- The reference's arenas: Make. -/
namespace Go.Proofs.Ytjebpngdinbckaa
open Go.Dk
attribute [local irreducible] IntKind.wrap

section
variable {P : Program} {w0 w w' : World} {F : Nat → Prop} {L M : List Res} {k kk : Value → World → Prop}
/-- An empty literal slice. -/
theorem Hp.buildNil (H : Hp w0 F w L M) {t e : TypeId} {z : Value} {sz b : Nat} (T : SlT P t e z sz b)
    (h : ∀ g w', Hp w0 F w' (own e sz (.slice (some ⟨g, 0, none⟩) 0 0) 0 [] :: L) M → k (.slice (some ⟨g, 0, none⟩) 0 0) w') : buildSliceK P t 0 [] w k := by
  unfold buildSliceK
  refine ⟨_, w.alloc (.cells #[] e), ?_, h w.heap.size _ (H.add (Keeps.alloc _ _) _ ?_ ?_)⟩
  · simp only [Instr.buildSlice, Sem.run_bind, run_underlying T.und, Result.andThen_ok, Go.Dk.run_sizeOf T.size]
    simp [Instr.fill, newRow]
    exact congrArg (fun x => w.alloc (.cells x e)) (Array.eq_empty_of_size_eq_zero (by simp))
  · exact ⟨by simp, .inr ⟨w.heap.size, 0, #[], rfl, Nat.zero_le _, heap_alloc_new w _, Nat.le_refl _, by unfold maxLen; omega, by simp, by simp⟩⟩
  · rintro g hg
    have : w.heap.size = g := by injection hg
    subst this
    exact ⟨Nat.le_refl _, by simp⟩
/-- append of a slice that is only read onto an empty one of one's own: a copy. -/
theorem Hp.appendCopy (H : Hp w0 F w L M) (n : Nat) {t e ty : TypeId} {z : Value} {sz b g c d : Nat} {A : Option Addr} {xs : List Value} {cst : Array Bool} (T : SlT P t e z sz b)
    (hn : L[n]? = some (own e sz (.slice (some ⟨g, 0, none⟩) 0 0) 0 [])) (hs : Sl w (.slice A c d) sz c xs) (h1 : ∀ u ∈ xs, u.oneCell' = true) (hl : c * b ≤ 140737488355328) (hl' : c < 1152921504606846976)
    (h : ∀ A d w', Hp w0 F w' (L.set n (own e sz (.slice A c d) c xs)) M → kk (.slice A c d) w') :
    builtinK P .append #[t, t] ty cst [.slice (some ⟨g, 0, none⟩) 0 0, .slice A c d] w kk := by
  obtain ⟨i, hi, hz, hs', hb⟩ := T.parts
  have hown : w.ownsRow 0 e sz (.slice (some ⟨g, 0, none⟩) 0 0) 0 [] := H.get n hn
  have hxl := hs.1
  rcases A with _ | a
  · have hc : c = 0 := by
      rcases Nat.eq_zero_or_pos c with h0 | h0
      · exact h0
      · obtain ⟨_, _, hA⟩ := hs.A h0; cases hA
    subst hc
    have hx : xs = [] := List.eq_nil_of_length_eq_zero (by simpa using hxl)
    subst hx
    have hL : L.set n (own e sz (.slice (some ⟨g, 0, none⟩) 0 0) 0 []) = L := by
      obtain ⟨h1, h2⟩ := List.getElem?_eq_some_iff.1 hn
      rw [← h2]; exact List.set_getElem_self h1
    unfold builtinK
    refine ⟨_, w, ?_, h (some ⟨g, 0, none⟩) 0 w (by rw [hL]; exact H)⟩
    show (do pure (.value (← Builtin.append_ #[t, t] ty #[.slice (some ⟨g, 0, none⟩) 0 0, .slice none 0 d])) : Sem Next).run P w = _
    simp [Builtin.append_, run_underlying T.und, sizeOf, typeInfo, hi, Builtin.lenOf, Builtin.firstCells, storeCells]
  · obtain ⟨v', w', hrun, hown', hg, _, hloc⟩ := run_append_own_at (P := P) w 0 t ty e i z sz b T.und hi hz hs' hb T.zs T.pos (.slice (some ⟨g, 0, none⟩) 0 0) 0 [] hown a c d xs hxl
      (fun j u hu => by
        have hjl := (List.getElem?_eq_some_iff.1 hu).1
        have hc : 0 < c := by
          rcases Nat.eq_zero_or_pos c with h0 | h0
          · subst h0; simp at hxl; subst hxl; simp at hjl
          · exact h0
        obtain ⟨g', o', ha⟩ := hs.A hc
        injection ha with ha
        subst ha
        have hadd : (⟨g', o', none⟩ : Addr).add j = ⟨g', o' + j, none⟩ := by unfold Addr.add; split <;> simp_all
        rw [hadd, hs.cell j (by omega), hu]) h1 (by unfold maxLen; omega) (by rw [Nat.zero_add]; exact hl) (Nat.zero_le _)
    rw [Nat.zero_add, List.nil_append] at hown'
    have hk : Keeps (own e sz (.slice (some ⟨g, 0, none⟩) 0 0) 0 []).foot w w' := ⟨hg.os, hg.tape, hg.output, hg.size, fun x hx hne => hg.block x hx fun e => hne e.symm⟩
    have H' := H.turn n hn (own e sz v' c xs) hk hown' (fun x hx => ⟨(World.ownsRow.lt (w := w') (base := 0) hown' x hx).2, by
      have hx' : v'.ownBlock = some x := hx
      rcases hloc with h | h
      · left; show Value.ownBlock _ = some x; rw [← h]; exact hx'
      · right; rw [h] at hx'; injection hx' with hx'; omega⟩)
    have hv : ∃ A d, v' = .slice A c d := by
      rcases hown'.2 with ⟨rfl, h0⟩ | ⟨g', cap, cur, hv, _⟩
      · exact ⟨none, 0, by rw [h0]⟩
      · exact ⟨_, _, hv⟩
    obtain ⟨A, d', rfl⟩ := hv
    unfold builtinK
    refine ⟨_, w', ?_, h A d' w' H'⟩
    show (do pure (.value (← Builtin.append_ #[t, t] ty #[.slice (some ⟨g, 0, none⟩) 0 0, .slice (some a) c d])) : Sem Next).run P w = _
    rw [Sem.run_bind, hrun]
    rfl
end
theorem flat_one4 (N : List RN) : ∀ v ∈ flat encN N, v.oneCell' = true := by
  intro v hv
  unfold flat at hv
  obtain ⟨x, _, hx⟩ := List.mem_flatMap.1 hv
  exact encN_one x v hx
theorem build64a {a : Int} {w : World} {kk : Value → World → Prop} (h : kk (rv a (.slice none 0 0)) w) : buildK Try.prog 64 [(0, .int .i64 a)] w kk := build_by (fun w => by kernel_rfl) h
theorem build64b {a : Int} {A : Option Addr} {l c : Nat} {w : World} {kk : Value → World → Prop} (h : kk (rv a (.slice A l c)) w) : buildK Try.prog 64 [(0, .int .i64 a), (1, .slice A l c)] w kk := build_by (fun w => by kernel_rfl) h
theorem build78z {w : World} {kk : Value → World → Prop} (h : kk z78 w) : buildK Try.prog 78 [] w kk := build_by (fun w => by kernel_rfl) h
theorem ab_set (N : List RN) (i : Nat) (n : Nd) : ab (N.set i (n, false)) = (ab N).set i (some n) := by unfold ab; rw [List.map_set]; rfl
theorem put_snoc {N : List RN} {n z : Nd} (h : freeA (ab N) = N.length) : ab ((N ++ [(z, false)]).set (freeA (ab N)) (n, false)) = putA (ab N) n := by
  rw [ab_set]
  unfold putA
  rw [if_pos (by rw [ab_length]; exact h), h]
  unfold ab
  rw [List.map_append, List.set_append_right _ _ (by simp)]
  simp
theorem put_set {N : List RN} {n : Nd} (h : freeA (ab N) ≠ N.length) : ab (N.set (freeA (ab N)) (n, false)) = putA (ab N) n := by
  rw [ab_set]
  unfold putA
  rw [if_neg (by rw [ab_length]; exact h)]
theorem size62 : sizeT Try.prog 62 = some 1 := by kernel_rfl
theorem zero64 : zeroT Try.prog 64 = some (rv 0 (.slice none 0 0)) := by kernel_rfl
theorem rc_one {room : Int} {A : Option Addr} {l c : Nat} : ∀ v ∈ (rc room (.slice A l c)).toList, v.oneCell' = true := by
  intro v hv
  simp [rc] at hv
  rcases hv with rfl | rfl <;> rfl
theorem ent69 : enters Try.prog 69 = true := by kernel_rfl
theorem c69_b (room : Int) (N : List RN) (B : Option Addr) (c : Nat) (l lo hi : Int) (hb : l < 0 ∨ 23 < l ∨ lvlA (ab N) lo ≤ l ∨ lvlA (ab N) hi ≤ l) (w : World) (hl : N.length ≤ 1000000) (hs : Sl w (.slice B N.length c) 4 N.length (flat encN N)) :
    Fun Try.prog 69 [rv room (.slice B N.length c), .int .i64 l, .int .i64 lo, .int .i64 hi] w fun v w' => v = .tuple #[rv room (.slice B N.length c), .int .i64 0, .int .i64 1] ∧ Same w w' := by
  refine fun_of_W (N := 114) Try.func69 ent69 rfl rfl rfl (by simp) ?_
  have H := Hp.start0 w
  refine H.box 64 (rv _ _) (cs := rc _ _) rfl ?_
  clear H
  intro g1 w1 H
  refine H.alloc 64 zero64 rfl ?_
  clear H
  intro g2 w2 H
  refine cond_dec (fun h3 => ?_) (fun h3 => ?_)
  · refine cond_yes (decide_eq_true (by assumption)) ?_
    refine cond_yes (decide_eq_true (by assumption)) ?_
    iterate 13 refine cond_yes rfl ?_
    refine H.loadAll 1 rfl agg64 size64 ?_
    refine H.storeAll 0 rfl size64 rfl (fun v hv => rc_one v hv) ?_ 
    clear H 
    intro w20 H
    refine H.loadAll 0 rfl agg64 size64 ?_
    refine ⟨rfl, ?_⟩
    exact ⟨rfl, H.keeps⟩
  · refine cond_no (decide_eq_false (by assumption)) ?_
    refine cond_no (decide_eq_false (by assumption)) ?_
    refine cond_dec (fun h26 => ?_) (fun h26 => ?_)
    · refine cond_yes (decide_eq_true (by assumption)) ?_
      iterate 4 refine cond_yes (decide_eq_true (by assumption)) ?_
      iterate 7 refine cond_yes rfl ?_
      refine H.loadAll 1 rfl agg64 size64 ?_
      refine H.storeAll 0 rfl size64 rfl (fun v hv => rc_one v hv) ?_ 
      clear H 
      intro w40 H
      refine H.loadAll 0 rfl agg64 size64 ?_
      refine ⟨rfl, ?_⟩
      exact ⟨rfl, H.keeps⟩
    · refine H.loadAll 1 rfl agg64 size64 ?_
      iterate 2 refine cond_no (decide_eq_false (by assumption)) ?_
      refine call_fn (c167 room N B c lo _ hl (hs.same H.keeps)) ?_ 
      rintro _ w47 ⟨rfl, hk⟩ 
      replace H := H.same hk 
      clear hk
      iterate 3 refine cond_no (decide_eq_false (by assumption)) ?_
      refine cond_dec (fun h51 => ?_) (fun h51 => ?_)
      · refine cond_yes (decide_eq_true (by assumption)) ?_
        iterate 4 refine cond_yes (decide_eq_true (by assumption)) ?_
        refine cond_yes rfl ?_
        refine H.loadAll 1 rfl agg64 size64 ?_
        refine H.storeAll 0 rfl size64 rfl (fun v hv => rc_one v hv) ?_ 
        clear H 
        intro w59 H
        refine H.loadAll 0 rfl agg64 size64 ?_
        refine ⟨rfl, ?_⟩
        exact ⟨rfl, H.keeps⟩
      · refine H.loadAll 1 rfl agg64 size64 ?_
        iterate 2 refine cond_no (decide_eq_false (by assumption)) ?_
        refine call_fn (c167 room N B c hi _ hl (hs.same H.keeps)) ?_ 
        rintro _ w66 ⟨rfl, hk⟩ 
        replace H := H.same hk 
        clear hk
        iterate 3 refine cond_no (decide_eq_false (by assumption)) ?_
        refine cond_yes (decide_eq_true (by omega)) ?_
        refine H.loadAll 1 rfl agg64 size64 ?_
        refine H.storeAll 0 rfl size64 rfl (fun v hv => rc_one v hv) ?_ 
        clear H 
        intro w72 H
        refine H.loadAll 0 rfl agg64 size64 ?_
        refine ⟨rfl, ?_⟩
        exact ⟨rfl, H.keeps⟩

/-- The lowest free place from k on. -/
def fr (A : Ar) (k : Nat) : Nat := k + (A.drop k).findIdx (·.isNone)
theorem fr_end (A : Ar) : fr A A.length = A.length := by unfold fr; simp
theorem fr_zero (A : Ar) : fr A 0 = freeA A := by unfold fr freeA; simp
theorem fr_step {A : Ar} {i : Nat} (hi : i < A.length) : fr A i = if (slot A i).isNone then i else fr A (i + 1) := by
  unfold fr
  have h : A.drop i = slot A i :: A.drop (i + 1) := by
    rw [List.drop_eq_getElem_cons hi]
    have := slot_get hi
    rw [List.getElem?_eq_getElem hi] at this
    injection this with this
    rw [this]
  rw [h, List.findIdx_cons]
  cases (slot A i).isNone
  · simp; omega
  · simp
theorem fr_le (A : Ar) {k : Nat} (hk : k ≤ A.length) : fr A k ≤ A.length := by
  unfold fr
  have := List.findIdx_le_length (xs := A.drop k) (p := fun x : Option Nd => x.isNone)
  rw [List.length_drop] at this; omega
theorem findA_not {A : Ar} {n : Nd} (h : ∀ j, slot A j ≠ some n) : findA A n = none := findA_none.2 h
/-- What Make answers in room, when the node's halves are right. -/
theorem c69_g (room : Int) (N : List RN) (B : Option Addr) (c : Nat) (n : Nd) (w : World) (hl : N.length ≤ 100000) (hs : Sl w (.slice B N.length c) 4 N.length (flat encN N)) (hu : Uniq (ab N))
    (h23 : (n.l : Int) ≤ 23) (h1 : (n.l : Int) < lvlA (ab N) n.lo) (h2 : (n.l : Int) < lvlA (ab N) n.hi) :
    Fun Try.prog 69 [rv room (.slice B N.length c), .int .i64 n.l, .int .i64 n.lo, .int .i64 n.hi] w fun v w' =>
      (∃ i, findA (ab N) n = some i ∧ v = .tuple #[rv room (.slice B N.length c), .int .i64 ((i + 2 : Nat) : Int), .int .i64 0] ∧ Same w w') ∨
      (findA (ab N) n = none ∧ room ≤ (liveA (ab N) : Int) ∧ v = .tuple #[rv room (.slice B N.length c), .int .i64 0, .int .i64 5] ∧ Same w w') ∨
      (findA (ab N) n = none ∧ (liveA (ab N) : Int) < room ∧ ∃ N' B' c', ab N' = putA (ab N) n ∧ v = .tuple #[rv room (.slice B' N'.length c'), .int .i64 ((freeA (ab N) + 2 : Nat) : Int), .int .i64 0] ∧
        NewR w w' (own 78 4 (.slice B' N'.length c') N'.length (flat encN N'))) := by
  refine fun_of_W (N := 114) Try.func69 ent69 rfl rfl rfl (by simp) ?_
  have H := Hp.start0 w
  refine H.box 64 (rv _ _) (cs := rc _ _) rfl ?_
  clear H
  intro g1 w1 H
  refine H.alloc 64 zero64 rfl ?_
  clear H
  intro g2 w2 H
  refine cut_rule (γ := Unit) _ rfl (fun _ => []) (fun _ w' => Hp.cl H w') ?_ ?_
  · iterate 3 refine cond_no rfl ?_
    refine cond_no (decide_eq_false (by omega)) ?_
    refine H.loadAll 1 rfl agg64 size64 ?_
    iterate 2 refine cond_no (decide_eq_false (by omega)) ?_
    refine call_fn (c167 room N B c n.lo _ (by omega) (hs.same H.keeps)) ?_ 
    rintro _ w10 ⟨rfl, hk⟩ 
    replace H := H.same hk 
    clear hk
    iterate 4 refine cond_no (decide_eq_false (by omega)) ?_
    refine H.loadAll 1 rfl agg64 size64 ?_
    iterate 2 refine cond_no (decide_eq_false (by omega)) ?_
    refine call_fn (c167 room N B c n.hi _ (by omega) (hs.same H.keeps)) ?_ 
    rintro _ w18 ⟨rfl, hk⟩ 
    replace H := H.same hk 
    clear hk
    iterate 4 refine cond_no (decide_eq_false (by omega)) ?_
    exact ⟨(), trivial, H⟩
  · rintro ⟨⟩ u w3 H1
    replace H : Hp _ _ _ _ _ := H1
    clear H1
    refine cut_rule (γ := Unit) _ rfl (fun _ => [(11, .int .i64 (N.length : Int))]) (fun _ w' => Hp.cl H w') ?_ ?_
    · refine fieldAddr_by (fa64_1 _) ?_
      refine H.load 1 rfl agg62 rfl ?_
      refine len_sl Try.underlying62 ?_
      exact ⟨(), ⟨rfl, trivial⟩, H⟩
    · rintro ⟨⟩ u w3 H1
      replace H : Hp _ _ _ _ _ := H1
      clear H1
      refine cut_rule (γ := Unit) _ rfl (fun _ => [(11, .int .i64 (freeA (ab N) : Int))]) (fun _ w' => (∀ j, slot (ab N) j ≠ some n) ∧ Hp.cl H w') ?_ ?_
      · refine fieldAddr_by (fa64_1 _) ?_
        refine H.load 1 rfl agg62 rfl ?_
        refine len_sl Try.underlying62 ?_
        have hw : IntKind.i64.wrap ((N.length : Int) - 1) = (N.length : Int) - 1 := by rw [IntKind.wrap_i64]; omega
        refine loop_rule (γ := Nat) _ rfl (fun k => [(12, .int .i64 ((k : Int) - 1)), (11, .int .i64 (fr (ab N) k : Int))]) (fun k w' => (k ≤ N.length ∧ ∀ j, k ≤ j → slot (ab N) j ≠ some n) ∧ Hp.cl H w') (fun k => k) N.length
          ⟨congrArg (Value.int .i64) hw, by have := fr_end (ab N); rw [ab_length] at this; rw [this]; rfl, trivial⟩ ⟨⟨Nat.le_refl _, fun j hj h => by have := slot_lt h; rw [ab_length] at this; omega⟩, H⟩ ?_
        rintro k u w4 ⟨⟨hk, hno⟩, H1⟩
        replace H : Hp _ _ _ _ _ := H1
        rcases k with _ | i
        · refine cond_no (decide_eq_false (by omega)) ?_
          exact ⟨(), ⟨by rw [← fr_zero]; rfl, trivial⟩, fun j => hno j (Nat.zero_le _), H1⟩
        · have hi : i < N.length := hk
          have e1 : ((i + 1 : Nat) : Int) - 1 = (i : Int) := by omega
          rw [e1]
          refine cond_yes (decide_eq_true (by omega)) ?_
          obtain ⟨⟨m, d⟩, hx⟩ : ∃ x, N[i]? = some x := ⟨_, List.getElem?_eq_getElem hi⟩
          have hsl := slot_ab hx
          have hfr := fr_step (A := ab N) (i := i) (by rw [ab_length]; omega)
          have hn1 := lvlA_range (A := ab N) (id := n.lo) (by omega)
          have hn2 := lvlA_range (A := ab N) (id := n.hi) (by omega)
          have ed : Value.int .i64 (IntKind.i64.wrap ((i : Int) - 1)) = .int .i64 ((i : Int) - 1) := by rw [IntKind.wrap_i64]; congr 1; omega
          obtain ⟨g0, o0, rfl⟩ := hs.A (by omega)
          refine fieldAddr_by (fa64_1 _) ?_
          refine H.load 1 rfl agg62 rfl ?_
          refine idxAddr_sl Try.underlying62 (s := 4) size78 i rfl hi (o' := o0 + i * 4) rfl ?_
          refine Sl.loadAgg H hs encN_length agg78 size78 i rfl hx ?_
          refine H.alloc 78 zero78 rfl ?_
          clear H
          intro g10 w10 H
          refine H.storeAll 0 rfl size78 rfl (fun v hv => encN_one (m, d) v hv) ?_
          clear H
          intro w11 H
          cases d with
          | true =>
            rw [if_pos rfl] at hsl
            replace hfr : fr (ab N) i = i := by rw [hfr, hsl]; rfl
            have hno' : ∀ j, i ≤ j → slot (ab N) j ≠ some n := fun j hj => by
              rcases Nat.lt_or_ge i j with h | h
              · exact hno j h
              · rw [show j = i by omega, hsl]; intro hh; cases hh
            have e11 : Value.int .i64 (i : Int) = .int .i64 (fr (ab N) i : Int) := by rw [hfr]
            refine fieldAddr_by (fa78_3 _) ?_
            refine H.load 0 rfl agg4 rfl ?_
            iterate 16 refine cond_no rfl ?_
            refine fieldAddr_by (fa78_3 _) ?_
            refine H.load 0 rfl agg4 rfl ?_
            refine cond_yes rfl ?_
            exact ⟨i, Nat.lt_succ_self i, ⟨ed, e11, trivial⟩, ⟨by omega, hno'⟩, H.forget⟩
          | false =>
            rw [if_neg (by simp)] at hsl
            rw [hsl, if_neg (by simp)] at hfr
            by_cases hmn : m = n
            · subst hmn
              have hf := (findA_some hu).2 hsl
              have ei : Value.int .i64 (IntKind.i64.wrap ((i : Int) + 2)) = .int .i64 ((i + 2 : Nat) : Int) := by rw [wlen2 (by omega)]
              refine fieldAddr_by (fa78_3 _) ?_
              refine H.load 0 rfl agg4 rfl ?_
              refine cond_yes rfl ?_
              refine fieldAddr_by (fa78_0 _) ?_
              refine cond_yes rfl ?_
              refine H.load 0 rfl agg3 rfl ?_
              iterate 3 refine cond_yes rfl ?_
              refine cond_yes (beq_self_eq_true _) ?_
              refine fieldAddr_by (fa78_1 _) ?_
              refine cond_yes (beq_self_eq_true _) ?_
              refine H.load 0 rfl agg3 rfl ?_
              iterate 4 refine cond_yes (beq_self_eq_true _) ?_
              refine fieldAddr_by (fa78_2 _) ?_
              refine cond_yes (beq_self_eq_true _) ?_
              refine H.load 0 rfl agg3 rfl ?_
              iterate 4 refine cond_yes (beq_self_eq_true _) ?_
              refine H.loadAll 2 rfl agg64 size64 ?_
              refine H.storeAll 1 rfl size64 rfl (fun v hv => rc_one v hv) ?_ 
              clear H 
              intro w33 H
              refine H.loadAll 1 rfl agg64 size64 ?_
              refine ⟨rfl, ?_⟩
              exact .inl ⟨i, hf, by rw [← ei]; rfl, H.keeps⟩
            · have hno' : ∀ j, i ≤ j → slot (ab N) j ≠ some n := fun j hj => by
                rcases Nat.lt_or_ge i j with h | h
                · exact hno j h
                · rw [show j = i by omega, hsl]; intro hh; injection hh with hh; exact hmn hh
              have e11 : Value.int .i64 (fr (ab N) (i + 1) : Int) = .int .i64 (fr (ab N) i : Int) := by rw [hfr]
              have hmn' : ¬ ((m.l : Int) = n.l ∧ (m.lo : Int) = n.lo ∧ (m.hi : Int) = n.hi) := fun ⟨h1, h2, h3⟩ => hmn (by cases m; cases n; simp only [Nd.mk.injEq]; exact ⟨Int.ofNat_inj.1 h1, Int.ofNat_inj.1 h2, Int.ofNat_inj.1 h3⟩)
              refine fieldAddr_by (fa78_3 _) ?_
              refine H.load 0 rfl agg4 rfl ?_
              refine cond_yes rfl ?_
              refine fieldAddr_by (fa78_0 _) ?_
              refine cond_yes rfl ?_
              refine H.load 0 rfl agg3 rfl ?_
              iterate 3 refine cond_yes rfl ?_
              refine cond_beq (fun h16 => ?_) (fun h16 => ?_)
              · refine fieldAddr_by (fa78_1 _) ?_
                refine cond_yes (beq_iff_eq.2 (by assumption)) ?_
                refine H.load 0 rfl agg3 rfl ?_
                iterate 3 refine cond_yes (beq_iff_eq.2 (by assumption)) ?_
                refine cond_beq (fun h24 => ?_) (fun h24 => ?_)
                · refine fieldAddr_by (fa78_2 _) ?_
                  refine cond_yes (beq_iff_eq.2 (by assumption)) ?_
                  refine H.load 0 rfl agg3 rfl ?_
                  iterate 3 refine cond_yes (beq_iff_eq.2 (by assumption)) ?_
                  refine cond_beq (fun h31 => ?_) (fun h31 => ?_)
                  · refine H.loadAll 2 rfl agg64 size64 ?_
                    refine H.storeAll 1 rfl size64 rfl (fun v hv => rc_one v hv) ?_ 
                    clear H 
                    intro w33 H
                    refine H.loadAll 1 rfl agg64 size64 ?_
                    exact absurd ⟨by assumption, by assumption, by assumption⟩ hmn'
                  · refine fieldAddr_by (fa78_3 _) ?_
                    refine H.load 0 rfl agg4 rfl ?_
                    refine cond_no rfl ?_
                    exact ⟨i, Nat.lt_succ_self i, ⟨ed, e11, trivial⟩, ⟨by omega, hno'⟩, H.forget⟩
                · refine cond_no (beq_eq_false_iff_ne.2 (by assumption)) ?_
                  iterate 3 refine cond_no (beq_eq_false_iff_ne.2 (by assumption)) ?_
                  refine cond_no rfl ?_
                  refine fieldAddr_by (fa78_3 _) ?_
                  refine H.load 0 rfl agg4 rfl ?_
                  refine cond_no rfl ?_
                  exact ⟨i, Nat.lt_succ_self i, ⟨ed, e11, trivial⟩, ⟨by omega, hno'⟩, H.forget⟩
              · refine cond_no (beq_eq_false_iff_ne.2 (by assumption)) ?_
                iterate 3 refine cond_no (beq_eq_false_iff_ne.2 (by assumption)) ?_
                iterate 6 refine cond_no rfl ?_
                refine fieldAddr_by (fa78_3 _) ?_
                refine H.load 0 rfl agg4 rfl ?_
                refine cond_no rfl ?_
                exact ⟨i, Nat.lt_succ_self i, ⟨ed, e11, trivial⟩, ⟨by omega, hno'⟩, H.forget⟩
      · rintro ⟨⟩ u w4 ⟨hno, H1⟩
        replace H : Hp _ _ _ _ _ := H1
        clear H1
        refine H.draw fol (by kernel_rfl) ?_
        clear H
        intro w5 H
        refine quiet _ (fun w H => H.loadAll 1 rfl agg64 size64 ⟨rfl, rfl⟩) ?_
        refine call_fn (c71 room N B c _ (by omega) (hs.same H.keeps)) ?_
        rintro _ w6 ⟨rfl, hk⟩
        replace H := H.same hk
        clear hk
        refine ⟨.inl H, ?_⟩
        refine quiet _ (fun w H => fieldAddr_by (fa64_0 _) ⟨rfl, rfl⟩) ?_
        refine quiet _ (fun w H => H.load 1 rfl agg3 rfl ⟨rfl, rfl⟩) ?_
        refine cond_dec (fun h9 => ?_) (fun h9 => ?_)
        · refine H.loadAll 1 rfl agg64 size64 ?_
          refine H.storeAll 0 rfl size64 rfl (fun v hv => rc_one v hv) ?_ 
          clear H 
          intro w7 H
          refine H.loadAll 0 rfl agg64 size64 ?_
          refine ⟨rfl, ?_⟩
          exact .inr (.inl ⟨findA_not hno, h9, rfl, H.keeps⟩)
        · refine cut_rule (γ := Nat × Option Addr × Nat) _ rfl (fun (g, _, _) => [(14, .pointer (some ⟨g, 0, none⟩))])
            (fun (g, A, d) w' => Hp w (fun _ => False) w' [blk g 64 (rc room (.slice A N.length d)), own 78 4 (.slice A N.length d) N.length (flat encN N), blk g2 64 (rv 0 (.slice none 0 0)).cells, blk g1 64 (rc room (.slice B N.length c))] []) ?_ ?_
          · refine draw_orders (fun w' => Hp w (fun _ => False) w' [blk g2 64 (rv 0 (.slice none 0 0)).cells, blk g1 64 (rc room (.slice B N.length c))] [])
              [([2, 5, 7, 8], [0, 1, 2, 3, 4, 5, 6, 7, 8]), ([2, 7, 5, 8], [0, 1, 2, 3, 4, 7, 5, 6, 8]), ([7, 2, 5, 8], [7, 0, 1, 2, 3, 4, 5, 6, 8])] fol (by kernel_rfl) (H.same (Keeps.drew _)) ?_
            replace H := (H.same (Keeps.drew _))
            intro x hx
            simp only [List.mem_cons, List.not_mem_nil, or_false] at hx
            rcases hx with rfl | rfl | rfl
            · refine quiet _ (fun w H => fieldAddr_by (fa64_0 _) ⟨rfl, rfl⟩) ?_
              refine quiet _ (fun w H => H.load 1 rfl agg3 rfl ⟨rfl, rfl⟩) ?_
              refine Hp.buildNil H T62 ?_ 
              clear H 
              intro g7 w7 H 
              refine ⟨.inl H.forget, ?_⟩
              refine quiet _ (fun w H => fieldAddr_by (fa64_1 _) ⟨rfl, rfl⟩) ?_
              refine quiet _ (fun w H => H.load 1 rfl agg62 rfl ⟨rfl, rfl⟩) ?_
              refine Hp.appendCopy H 0 T62 rfl (hs.same H.keeps) (flat_one4 N) (by omega) (by omega) ?_ 
              clear H 
              intro A d w8 H 
              refine ⟨.inl H.forget, ?_⟩
              refine quiet _ (fun w H => build64b ⟨rfl, rfl⟩) ?_
              refine H.alloc 64 zero64 rfl ?_ 
              clear H 
              intro g9 w9 H 
              refine ⟨.inl H.forget.forget, ?_⟩
              refine H.storeAll 0 rfl size64 rfl (fun v hv => rc_one v hv) ?_ 
              clear H 
              intro w10 H 
              refine ⟨.inl H.forget.forget, ?_⟩
              exact ⟨(g9, A, d), ⟨rfl, trivial⟩, H⟩
            · refine quiet _ (fun w H => fieldAddr_by (fa64_0 _) ⟨rfl, rfl⟩) ?_
              refine quiet _ (fun w H => H.load 1 rfl agg3 rfl ⟨rfl, rfl⟩) ?_
              refine Hp.buildNil H T62 ?_ 
              clear H 
              intro g7 w7 H 
              refine ⟨.inl H.forget, ?_⟩
              refine quiet _ (fun w H => fieldAddr_by (fa64_1 _) ⟨rfl, rfl⟩) ?_
              refine quiet _ (fun w H => H.load 1 rfl agg62 rfl ⟨rfl, rfl⟩) ?_
              refine H.alloc 64 zero64 rfl ?_ 
              clear H 
              intro g9 w9 H 
              refine ⟨.inl H.forget.forget, ?_⟩
              refine Hp.appendCopy H 1 T62 rfl (hs.same H.keeps) (flat_one4 N) (by omega) (by omega) ?_ 
              clear H 
              intro A d w8 H 
              refine ⟨.inl H.forget.forget, ?_⟩
              refine quiet _ (fun w H => build64b ⟨rfl, rfl⟩) ?_
              refine H.storeAll 0 rfl size64 rfl (fun v hv => rc_one v hv) ?_ 
              clear H 
              intro w10 H 
              refine ⟨.inl H.forget.forget, ?_⟩
              exact ⟨(g9, A, d), ⟨rfl, trivial⟩, H⟩
            · refine H.alloc 64 zero64 rfl ?_
              clear H
              intro g9 w9 H
              refine ⟨.inl H.forget, ?_⟩
              refine quiet _ (fun w H => fieldAddr_by (fa64_0 _) ⟨rfl, rfl⟩) ?_
              refine quiet _ (fun w H => H.load 1 rfl agg3 rfl ⟨rfl, rfl⟩) ?_
              refine Hp.buildNil H T62 ?_ 
              clear H 
              intro g7 w7 H 
              refine ⟨.inl H.forget.forget, ?_⟩
              refine quiet _ (fun w H => fieldAddr_by (fa64_1 _) ⟨rfl, rfl⟩) ?_
              refine quiet _ (fun w H => H.load 1 rfl agg62 rfl ⟨rfl, rfl⟩) ?_
              refine Hp.appendCopy H 0 T62 rfl (hs.same H.keeps) (flat_one4 N) (by omega) (by omega) ?_ 
              clear H 
              intro A d w8 H 
              refine ⟨.inl H.forget.forget, ?_⟩
              refine quiet _ (fun w H => build64b ⟨rfl, rfl⟩) ?_
              refine H.storeAll 1 rfl size64 rfl (fun v hv => rc_one v hv) ?_ 
              clear H 
              intro w10 H 
              refine ⟨.inl H.forget.forget, ?_⟩
              exact ⟨(g9, A, d), ⟨rfl, trivial⟩, H.front 1 rfl⟩
          · clear H
            rintro ⟨g3, A, d⟩ u w8 H
            replace H : Hp _ _ _ _ _ := H
            have hfl := freeA_le (ab N)
            rw [ab_length] at hfl
            refine cut_rule (γ := List RN × Option Addr × Nat) _ rfl (fun _ => [])
              (fun (N1, A, d) w' => (freeA (ab N) < N1.length ∧ ab (N1.set (freeA (ab N)) (n, false)) = putA (ab N) n) ∧ Hp w (fun _ => False) w' [blk g3 64 (rc room (.slice A N1.length d)), own 78 4 (.slice A N1.length d) N1.length (flat encN N1), blk g2 64 (rv 0 (.slice none 0 0)).cells, blk g1 64 (rc room (.slice B N.length c))] []) ?_ ?_
            · refine fieldAddr_by (fa64_1 _) ?_
              refine H.load 0 rfl agg62 rfl ?_
              refine len_sl Try.underlying62 ?_
              refine cond_beq (fun h12 => ?_) (fun h12 => ?_)
              · have h12 : freeA (ab N) = N.length := by omega
                refine fieldAddr_by (fa64_1 _) ?_
                refine H.load 0 rfl agg62 rfl ?_
                refine build78z ?_
                refine H.buildSl T62 (cs := (encN (⟨0, 0, 0⟩, false)).toArray) (by decide) (by decide) (by kernel_rfl) ?_
                clear H
                intro g5 w9 H
                refine H.appendBlk 2 0 T62 rfl rfl rfl (encN_one _) (by omega) (by omega) ?_
                clear H
                intro A1 d1 w10 H
                refine fieldAddr_by (fa64_1 _) ?_
                refine H.store 1 rfl size62 (by show 1 < 2; decide) rfl ?_
                clear H
                intro w11 H
                have hli : (N ++ [((⟨0, 0, 0⟩ : Nd), false)]).length = N.length + 1 := by simp
                exact ⟨(N ++ [(⟨0, 0, 0⟩, false)], A1, d1), trivial, ⟨by rw [hli]; omega, put_snoc h12⟩, by rw [hli, flat_snoc]; exact H.forget⟩
              · have h12 : freeA (ab N) ≠ N.length := by omega
                exact ⟨(N, A, d), trivial, ⟨by omega, put_set h12⟩, H⟩
            · clear H
              rintro ⟨N1, A, d⟩ u w9 ⟨⟨hf, hput⟩, H⟩
              obtain ⟨g6, rfl⟩ := H.ownA 1 rfl (by omega)
              have hfw : IntKind.i64.wrap ((freeA (ab N) : Int) + 2) = ((freeA (ab N) + 2 : Nat) : Int) := wlen2 (by omega)
              refine fieldAddr_by (fa64_1 _) ?_
              refine H.load 0 rfl agg62 rfl ?_
              refine build78 ?_
              refine idxAddr_sl Try.underlying62 (s := 4) size78 _ rfl hf (o' := freeA (ab N) * 4) (by omega) ?_
              refine H.storeOwnAgg 1 (n, false) rfl encN_length size78 _ rfl hf rfl (encN_one _) ?_
              clear H
              intro w12 H
              have hln : (N1.set (freeA (ab N)) (n, false)).length = N1.length := List.length_set ..
              refine H.loadAll 0 rfl agg64 size64 ?_
              refine H.storeAll 2 rfl size64 rfl (fun v hv => rc_one v hv) ?_ 
              clear H 
              intro w10 H
              refine H.loadAll 2 rfl agg64 size64 ?_
              refine ⟨rfl, ?_⟩
              exact .inr (.inr ⟨findA_not hno, by omega, N1.set (freeA (ab N)) (n, false), _, d, hput, by rw [← hfw, hln]; rfl, by rw [hln]; exact H.outAt 1 rfl⟩)
/-- Make of the reference: what mkA says. -/
theorem c69 (room : Int) (N : List RN) (B : Option Addr) (c : Nat) (l lo hi : Int) (w : World) (hl : N.length ≤ 100000) (hs : Sl w (.slice B N.length c) 4 N.length (flat encN N)) (hinv : ArInv (ab N)) :
    Fun Try.prog 69 [rv room (.slice B N.length c), .int .i64 l, .int .i64 lo, .int .i64 hi] w fun v w' =>
      ∃ N' B' c', ab N' = (mkA room (ab N) l lo hi).1 ∧ v = .tuple #[rv room (.slice B' N'.length c'), .int .i64 (mkA room (ab N) l lo hi).2.1, .int .i64 (mkA room (ab N) l lo hi).2.2] ∧
        ((N' = N ∧ B' = B ∧ c' = c ∧ Same w w') ∨ NewR w w' (own 78 4 (.slice B' N'.length c') N'.length (flat encN N'))) := by
  have h1 := lvlA_le hinv lo
  by_cases hb : l < 0 ∨ lvlA (ab N) lo ≤ l ∨ lvlA (ab N) hi ≤ l
  · refine (c69_b room N B c l lo hi (by omega) w (by omega) hs).mono ?_
    rintro v w' ⟨rfl, hk⟩
    unfold mkA
    rw [if_pos hb]
    exact ⟨N, B, c, rfl, rfl, .inl ⟨rfl, rfl, rfl, hk⟩⟩
  · have g1 : 0 ≤ lo := by
      rcases lvlA_node (A := ab N) (id := lo) (by omega) with rfl | rfl | ⟨i, n, rfl, _⟩ <;> omega
    have g2 : 0 ≤ hi := by
      rcases lvlA_node (A := ab N) (id := hi) (by omega) with rfl | rfl | ⟨i, n, rfl, _⟩ <;> omega
    have e : mkA room (ab N) l lo hi = (match findA (ab N) ⟨l.toNat, lo.toNat, hi.toNat⟩ with
      | some i => (ab N, ((i + 2 : Nat) : Int), 0)
      | none => if room ≤ (liveA (ab N) : Int) then (ab N, 0, 5) else (putA (ab N) ⟨l.toNat, lo.toNat, hi.toNat⟩, ((freeA (ab N) + 2 : Nat) : Int), 0)) := by
      unfold mkA; rw [if_neg hb]; rfl
    rw [e]
    have hg := c69_g room N B c ⟨l.toNat, lo.toNat, hi.toNat⟩ w hl hs hinv.uniq (by show ((l.toNat : Nat) : Int) ≤ 23; omega)
      (by show ((l.toNat : Nat) : Int) < lvlA (ab N) ((lo.toNat : Nat) : Int); rw [Int.toNat_of_nonneg g1]; omega)
      (by show ((l.toNat : Nat) : Int) < lvlA (ab N) ((hi.toNat : Nat) : Int); rw [Int.toNat_of_nonneg g2]; omega)
    have e1 : ((l.toNat : Nat) : Int) = l := Int.toNat_of_nonneg (by omega)
    have e2 : ((lo.toNat : Nat) : Int) = lo := Int.toNat_of_nonneg g1
    have e3 : ((hi.toNat : Nat) : Int) = hi := Int.toNat_of_nonneg g2
    simp only [e1, e2, e3] at hg
    refine hg.mono ?_
    rintro v w' (⟨i, hf, rfl, hk⟩ | ⟨hf, hr, rfl, hk⟩ | ⟨hf, hr, N', B', c', hp, rfl, hn⟩)
    · rw [hf]; exact ⟨N, B, c, rfl, rfl, .inl ⟨rfl, rfl, rfl, hk⟩⟩
    · rw [hf]; simp only [if_pos hr]; exact ⟨N, B, c, rfl, rfl, .inl ⟨rfl, rfl, rfl, hk⟩⟩
    · rw [hf]; simp only [if_neg (show ¬ room ≤ (liveA (ab N) : Int) by omega)]; exact ⟨N', B', c', hp, rfl, .inr hn⟩
end Go.Proofs.Ytjebpngdinbckaa
end

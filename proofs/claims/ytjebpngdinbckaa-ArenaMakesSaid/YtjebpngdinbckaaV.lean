import Derived.Test.YtjebpngdinbckaaQ7
import Derived.Test.YtjebpngdinbckaaE
/- Arenas: how they lie in memory. -/
namespace Go.Proofs.Ytjebpngdinbckaa
open Go.Dk
attribute [local irreducible] IntKind.wrap

/-! ### Nodes -/
def k3 (a b c : Int) : Value := .agg #[.int .i64 a, .int .i64 b, .int .i64 c]
theorem zero202 : zeroT Try.prog 202 = some (k3 0 0 0) := by kernel_rfl
theorem agg202 : aggT Try.prog 202 = some true := by kernel_rfl
theorem size202 : sizeT Try.prog 202 = some 3 := by kernel_rfl
theorem agg197 : aggT Try.prog 197 = some false := by kernel_rfl
theorem size197 : sizeT Try.prog 197 = some 1 := by kernel_rfl
theorem agg196 : aggT Try.prog 196 = some false := by kernel_rfl
theorem size199 : sizeT Try.prog 199 = some 3 := by kernel_rfl
theorem agg199 : aggT Try.prog 199 = some true := by kernel_rfl
theorem zero3 : zeroT Try.prog 3 = some (.int .i64 0) := by kernel_rfl
theorem T197 : SlT Try.prog 197 202 (k3 0 0 0) 3 24 := ⟨Try.underlying197, by kernel_rfl, rfl, by decide⟩
theorem run_eq202 (a b c a' b' c' : Int) (w : World) : (Op.equal 202 (k3 a b c) (k3 a' b' c')).run Try.prog w = .ok (a == a' && (b == b' && c == c')) w := by
  have hr : ∀ d', (Op.equalIn (d' + 2) 202 (k3 a b c) (k3 a' b' c')).run Try.prog w = .ok (a == a' && (b == b' && c == c')) w := by
    intro d'
    unfold k3
    rw [Op.equalIn]
    have i0 := run_eqInt Try.underlying3 d' a a'
    have i1 := run_eqInt Try.underlying3 d' b b'
    have i2 := run_eqInt Try.underlying3 d' c c'
    have p0 : ∀ (x y z : Int) w, (Go.part 3 #[.int .i64 x, .int .i64 y, .int .i64 z] 0).run Try.prog w = .ok (.int .i64 x) w := fun x y z w => run_part agg3 rfl w
    have p1 : ∀ (x y z : Int) w, (Go.part 3 #[.int .i64 x, .int .i64 y, .int .i64 z] 1).run Try.prog w = .ok (.int .i64 y) w := fun x y z w => run_part agg3 rfl w
    have p2 : ∀ (x y z : Int) w, (Go.part 3 #[.int .i64 x, .int .i64 y, .int .i64 z] 2).run Try.prog w = .ok (.int .i64 z) w := fun x y z w => run_part agg3 rfl w
    generalize (a == a') = b0 at *
    generalize (b == b') = b1 at *
    generalize (c == c') = b2 at *
    have hst : Try.prog.stoodInHeld 202 = false := by kernel_rfl
    simp only [Sem.run_bind, run_underlying Try.underlying202, Result.andThen_ok, Go.Dk.run_sizeOf size202, run_program, hst]
    cases b0 <;> cases b1 <;> cases b2 <;> simp [p0, p1, p2, i0, i1, i2]
  exact hr 9998
theorem k3_inj {a b c a' b' c' : Int} : k3 a b c = k3 a' b' c' ↔ a = a' ∧ b = b' ∧ c = c' := by simp [k3]
def isK3 (v : Value) : Prop := ∃ a b c, v = k3 a b c
theorem check202 (a b c : Int) (em : Bool) (w : World) : (Instr.checkKey em 10000 202 (k3 a b c)).run Try.prog w = .ok () w := by kernel_rfl
theorem asking202 (w : World) (a b c : Int) : ∀ (es : List MapEntry) (i : Nat), (∀ e ∈ es, isK3 e.key) →
    ((Instr.findAsking 202 (k3 a b c) es i).run Try.prog w = .ok none w ∧ ∀ e ∈ es, e.key ≠ k3 a b c) ∨ ∃ j e, (Instr.findAsking 202 (k3 a b c) es i).run Try.prog w = .ok (some (i + j, e.val)) w ∧ es[j]? = some e ∧ e.key = k3 a b c
  | [], i, _ => .inl ⟨by simp [Instr.findAsking], by simp⟩
  | e :: es, i, h => by
    obtain ⟨a', b', c', he⟩ := h e (.head _)
    have hq := run_eq202 a b c a' b' c' w
    by_cases hk : a = a' ∧ b = b' ∧ c = c'
    · obtain ⟨rfl, rfl, rfl⟩ := hk
      exact .inr ⟨0, e, by simp [Instr.findAsking, he, hq], rfl, he⟩
    · have hf : (a == a' && (b == b' && c == c')) = false := by
        rw [Bool.eq_false_iff]; intro hh; simp at hh; exact hk hh
      rw [hf] at hq
      have hne : e.key ≠ k3 a b c := fun hh => hk (by rw [he, k3_inj] at hh; exact ⟨hh.1.symm, hh.2.1.symm, hh.2.2.symm⟩)
      rcases asking202 w a b c es (i + 1) (fun x hx => h x (.tail _ hx)) with ⟨h1, h2⟩ | ⟨j, e', h1, h2, h3⟩
      · refine .inl ⟨by simp [Instr.findAsking, he, hq, h1], fun x hx => ?_⟩
        rcases List.mem_cons.1 hx with rfl | hx
        · exact hne
        · exact h2 x hx
      · exact .inr ⟨j + 1, e', by simp [Instr.findAsking, he, hq, h1]; omega, by simpa using h2, h3⟩
theorem KL202 : KL Try.prog 202 isK3 where
  check := by rintro w em _ ⟨a, b, c, rfl⟩; exact check202 a b c em w
  find := by
    rintro w _ ⟨a, b, c, rfl⟩ es he
    cases es with
    | nil => exact .inl ⟨by simp [Instr.findKey, run_underlying Try.underlying202, Instr.findNow], by simp⟩
    | cons e es =>
      have hn : ∀ fs, Instr.findNow (.struct fs) (k3 a b c) (e :: es) 0 = none := fun fs => rfl
      have := asking202 w a b c (e :: es) 0 he
      simp only [Nat.zero_add] at this
      simp only [Instr.findKey, Sem.run_bind, run_underlying Try.underlying202, Result.andThen_ok, hn]
      exact this
  stays := by
    rintro w _ ⟨a, b, c, rfl⟩
    have : Instr.sameBits 10000 (k3 a b c) (k3 a b c) = true := by
      show (_ && _) = true
      simp [Instr.sameBits]
    simp [Instr.keyThatStays, this]
def kaN (n : Nd) : Value := k3 n.l n.lo n.hi
def vbN (i : Nat) : Value := .int .i64 (i : Int)
theorem W196 : MapW Try.prog 196 202 3 kaN vbN (.int .i64 0) where
  und := Try.underlying196
  key := KL202.mono fun _ ⟨n, h⟩ => ⟨_, _, _, h⟩
  inj := by
    rintro ⟨l, lo, hi⟩ ⟨l', lo', hi'⟩ h
    obtain ⟨h1, h2, h3⟩ := k3_inj.1 h
    simp only at h1 h2 h3
    obtain rfl := Int.ofNat_inj.1 h1
    obtain rfl := Int.ofNat_inj.1 h2
    obtain rfl := Int.ofNat_inj.1 h3
    rfl
  zero := zero3

/-! ### How an arena lies -/
abbrev Slot := Sum Nd (Int × Int)
def encS : Slot → List Value
  | .inl n => [.int .i64 n.l, .int .i64 n.lo, .int .i64 n.hi]
  | .inr (x, y) => [.int .i64 (-1), .int .i64 x, .int .i64 y]
theorem encS_length (s : Slot) : (encS s).length = 3 := by cases s <;> rfl
theorem encS_one (s : Slot) : ∀ v ∈ encS s, v.oneCell' = true := by
  intro v hv
  cases s <;> simp [encS] at hv <;> rcases hv with rfl | rfl | rfl <;> rfl
def ndS : Slot → Option Nd
  | .inl n => some n
  | .inr _ => none
def ars (N : List Slot) : Ar := N.map ndS
theorem ars_length (N : List Slot) : (ars N).length = N.length := by simp [ars]
theorem slot_ars {N : List Slot} {i : Nat} {s : Slot} (h : N[i]? = some s) : slot (ars N) i = ndS s := by
  unfold slot ars
  rw [List.getD_eq_getElem?_getD, List.getElem?_map, h]; rfl
theorem ars_set (N : List Slot) (i : Nat) (s : Slot) : ars (N.set i s) = (ars N).set i (ndS s) := by simp [ars, List.map_set]
theorem ars_snoc (N : List Slot) (s : Slot) : ars (N ++ [s]) = ars N ++ [ndS s] := by simp [ars]
def nodesR (sv : Value) (A : Ar) : Res :=
  ⟨fun g => sv.ownBlock = some g, fun w => ∃ N : List Slot, ars N = A ∧ (own 202 3 sv N.length (flat encS N)).ok w, fun w w' h ⟨N, h1, h2⟩ => ⟨N, h1, (own 202 3 sv N.length (flat encS N)).stable w w' h h2⟩⟩
def idsR (r : Nat) (A : Ar) : Res :=
  ⟨fun g => g = r, fun w => ∃ l, IdsOk l A ∧ (mapR kaN vbN r l).ok w, fun w w' h ⟨l, h1, h2⟩ => ⟨l, h1, (mapR kaN vbN r l).stable w w' h h2⟩⟩
def arP (g r : Nat) (sv : Value) (room : Int) (A : Ar) : List Res := [blk g 199 #[.int .i64 room, sv, .map (some r)], nodesR sv A, idsR r A]
def arR (g r : Nat) (sv : Value) (room : Int) (A : Ar) : Res := seps (arP g r sv room A)
/-- What an arena keeps to, with its room. -/
structure ArOk (room : Int) (A : Ar) : Prop where
  inv : ArInv A
  len : (A.length : Int) ≤ room
  room : room ≤ 20000

def arV (B : Option Addr) (n c : Nat) (room : Int) (r : Nat) : Array Value := #[.int .i64 room, .slice B n c, .map (some r)]
/-- An arena opened, to be read. -/
theorem arR_open {g r : Nat} {sv : Value} {room : Int} {A : Ar} {w : World} (h : (arR g r sv room A).ok w) :
    ∃ N B c l, ars N = A ∧ sv = .slice B N.length c ∧ IdsOk l A ∧ (akeys l).Nodup ∧
      Hp w (fun _ => False) w [] [blk g 199 (arV B N.length c room r), own 202 3 (.slice B N.length c) N.length (flat encS N), mapR kaN vbN r l] := by
  obtain ⟨h1, h2, h3⟩ := h
  obtain ⟨N, hN, hown⟩ := h1 (nodesR sv A) (by simp [arP])
  obtain ⟨l, hl, hmap⟩ := h1 (idsR r A) (by simp [arP])
  obtain ⟨B, c, rfl, hc⟩ := own_form hown
  have hnd : (akeys l).Nodup := by
    obtain ⟨es, clock, _, hs, he⟩ := hmap
    exact mapR_keys W196.inj hs he
  refine ⟨N, B, c, l, hN, rfl, hl, hnd, Hp.start w _ _ ?_ ?_⟩
  · intro q hq
    simp only [List.mem_cons, List.not_mem_nil, or_false] at hq
    rcases hq with rfl | rfl | rfl
    · exact h1 _ (by simp [arP, arV])
    · exact hown
    · exact hmap
  · intro q hq x hx
    simp only [List.mem_cons, List.not_mem_nil, or_false] at hq
    rcases hq with rfl | rfl | rfl
    · exact h2 _ (by simp [arP]; exact .inl rfl) x hx
    · exact h2 (nodesR (.slice B N.length c) A) (by simp [arP]) x hx
    · exact h2 (idsR r A) (by simp [arP]) x hx
theorem fa199_0 (g : Nat) (w : World) : (Instr.fieldAt 199 (.pointer (some ⟨g, 0, none⟩)) 0).run Try.prog w = .ok (.pointer (some ⟨g, 0, none⟩)) w := by kernel_rfl
theorem fa199_1 (g : Nat) (w : World) : (Instr.fieldAt 199 (.pointer (some ⟨g, 0, none⟩)) 1).run Try.prog w = .ok (.pointer (some ⟨g, 1, none⟩)) w := by kernel_rfl
theorem fa199_2 (g : Nat) (w : World) : (Instr.fieldAt 199 (.pointer (some ⟨g, 0, none⟩)) 2).run Try.prog w = .ok (.pointer (some ⟨g, 2, none⟩)) w := by kernel_rfl
theorem fa202_0 (g o : Nat) (w : World) : (Instr.fieldAt 202 (.pointer (some ⟨g, o, none⟩)) 0).run Try.prog w = .ok (.pointer (some ⟨g, o, none⟩)) w := by kernel_rfl
theorem fa202_1 (g o : Nat) (w : World) : (Instr.fieldAt 202 (.pointer (some ⟨g, o, none⟩)) 1).run Try.prog w = .ok (.pointer (some ⟨g, o + 1, none⟩)) w := by kernel_rfl
theorem fa202_2 (g o : Nat) (w : World) : (Instr.fieldAt 202 (.pointer (some ⟨g, o, none⟩)) 2).run Try.prog w = .ok (.pointer (some ⟨g, o + 2, none⟩)) w := by kernel_rfl
def thereA (A : Ar) (id : Int) : Bool := decide (2 ≤ id) && (slot A (id - 2).toNat).isSome
theorem sub2 {k : Nat} (hk : k < 9223372036854775806) : IntKind.i64.wrap ((k : Int) + 2 - 2) = (k : Int) := by rw [wrap_i64_in (by omega) (by omega)]; omega

theorem ent168 : enters Try.prog 168 = true := by kernel_rfl
theorem c168_b {g r : Nat} {sv : Value} {room : Int} {A : Ar} (id : Int) (hid : id < 2) (w : World) (h : (arR g r sv room A).ok w) : Fun Try.prog 168 [.pointer (some ⟨g, 0, none⟩), .int .i64 id] w fun v w' => v = .bool false ∧ Same w w' := by
  refine fun_of_W (N := 29) Try.func168 ent168 rfl rfl rfl (by simp) ?_
  have H := Hp.start0 w
  iterate 9 refine cond_no (decide_eq_false (by omega)) ?_
  iterate 11 refine cond_no rfl ?_
  exact ⟨rfl, H.keeps⟩
theorem c168_a {g r : Nat} {sv : Value} {room : Int} {A : Ar} (k : Nat) (hk : k < 9223372036854775806) (w : World) (h : (arR g r sv room A).ok w) : Fun Try.prog 168 [.pointer (some ⟨g, 0, none⟩), .int .i64 ((k : Int) + 2)] w fun v w' => v = .bool (slot A k).isSome ∧ Same w w' := by
  refine fun_of_W (N := 29) Try.func168 ent168 rfl rfl rfl (by simp) ?_
  obtain ⟨N, B, c, l, rfl, rfl, hl, hnd, H⟩ := arR_open h
  have hw := sub2 hk
  iterate 5 refine cond_yes (decide_eq_true (by omega)) ?_
  refine fieldAddr_by (fa199_1 _) ?_
  refine cond_yes (decide_eq_true (by omega)) ?_
  refine ld_blk (H.ro 0 rfl) agg197 rfl ?_
  refine cond_yes (decide_eq_true (by omega)) ?_
  refine len_sl Try.underlying197 ?_
  iterate 2 refine cond_yes (decide_eq_true (by omega)) ?_
  refine cond_dec (fun h13 => ?_) (fun h13 => ?_)
  · refine cond_yes (decide_eq_true (by assumption)) ?_
    refine cond_yes (decide_eq_true (by assumption)) ?_
    refine fieldAddr_by (fa199_1 _) ?_
    refine cond_yes (decide_eq_true (by assumption)) ?_
    refine ld_blk (H.ro 0 rfl) agg197 rfl ?_
    iterate 3 refine cond_yes (decide_eq_true (by assumption)) ?_
    rw [hw] at h13
    have hk' : k < N.length := by omega
    obtain ⟨g0, rfl⟩ := own_base (H.ro 1 rfl) (by omega)
    obtain ⟨s, hs⟩ : ∃ s, N[k]? = some s := ⟨_, List.getElem?_eq_getElem hk'⟩
    refine idxAddr_sl Try.underlying197 size202 k hw hk' (o' := k * 3) (by omega) ?_
    rw [slot_ars hs]
    cases s with
    | inl n =>
      refine cond_yes (decide_eq_true (by omega)) ?_
      refine fieldAddr_by (fa202_0 _ _) ?_
      refine cond_yes (decide_eq_true (by omega)) ?_
      refine ld_fld (H.ro 1 rfl) encS_length agg3 k 0 rfl hs rfl ?_
      iterate 2 refine cond_yes (decide_eq_true (by omega)) ?_
      exact ⟨rfl, H.keeps⟩
    | inr p =>
      refine cond_yes (decide_eq_true (by omega)) ?_
      refine fieldAddr_by (fa202_0 _ _) ?_
      refine cond_yes (decide_eq_true (by omega)) ?_
      refine ld_fld (H.ro 1 rfl) encS_length agg3 k 0 rfl hs rfl ?_
      iterate 2 refine cond_yes (decide_eq_true (by omega)) ?_
      exact ⟨rfl, H.keeps⟩
  · refine cond_no (decide_eq_false (by assumption)) ?_
    iterate 9 refine cond_no (decide_eq_false (by assumption)) ?_
    refine ⟨congrArg Value.bool ?_, H.keeps⟩
    rw [hw] at h13
    rw [slot_none (by rw [ars_length]; omega)]; rfl

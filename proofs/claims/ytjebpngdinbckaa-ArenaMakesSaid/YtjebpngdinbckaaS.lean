import Derived.Test.YtjebpngdinbckaaChecked
import Derived.Test.YtjebpngdinbckaaL
import Derived.Test.YtjebpngdinbckaaB
import Derived.KernelRfl
/- Sets of points: their values, and the functions of package set. -/
namespace Go.Proofs.Ytjebpngdinbckaa
open Go.Dk
attribute [local irreducible] IntKind.wrap

theorem fol : Try.prog.follows .mixedOrders = true := by kernel_rfl

/-! ### A set as a number -/
def word (n i : Nat) : Nat := n / 2 ^ (64 * i) % 2 ^ 64
def sc (n : Nat) : Array Value := #[.int .u64 (word n 0 : Int), .int .u64 (word n 1 : Int), .int .u64 (word n 2 : Int), .int .u64 (word n 3 : Int)]
def sv (n : Nat) : Value := .agg (sc n)

theorem word_lt (n i : Nat) : word n i < 18446744073709551616 := Nat.mod_lt _ (by decide)
theorem testBit_word (n i j : Nat) : (word n i).testBit j = (decide (j < 64) && n.testBit (64 * i + j)) := by
  unfold word
  rw [Nat.testBit_mod_two_pow, Nat.testBit_div_two_pow, Nat.add_comm]
theorem sc_get (n i : Nat) (hi : i < 4) : (sc n)[i]? = some (.int .u64 (word n i : Int)) := by
  match i, hi with
  | 0, _ => rfl
  | 1, _ => rfl
  | 2, _ => rfl
  | 3, _ => rfl
theorem sc_ext {cs : Array Value} {n : Nat} (hs : cs.size = 4) (h : ∀ i, i < 4 → cs[i]? = some (.int .u64 (word n i : Int))) : cs = sc n := by
  apply Array.ext_getElem?
  intro i
  by_cases hi : i < 4
  · rw [h i hi, sc_get n i hi]
  · rw [Array.getElem?_eq_none (by omega), Array.getElem?_eq_none (by show 4 ≤ i; omega)]
theorem sc_zero : #[Value.int .u64 0, .int .u64 0, .int .u64 0, .int .u64 0] = sc 0 := sc_ext rfl fun i hi => by
  match i, hi with
  | 0, _ => rfl
  | 1, _ => rfl
  | 2, _ => rfl
  | 3, _ => rfl
theorem word_or (n m i : Nat) : word (n ||| m) i = word n i ||| word m i := by
  apply Nat.eq_of_testBit_eq; intro j
  rw [Nat.testBit_or, testBit_word, testBit_word, testBit_word, Nat.testBit_or]
  cases decide (j < 64) <;> simp
theorem word_pow (p i : Nat) : word (2 ^ p) i = if p / 64 = i then 2 ^ (p % 64) else 0 := by
  apply Nat.eq_of_testBit_eq; intro j
  rw [testBit_word, Nat.testBit_two_pow]
  split
  · rename_i h
    subst h
    rw [Nat.testBit_two_pow]
    by_cases hj : j < 64
    · simp only [hj, decide_true, Bool.true_and]
      rw [Bool.eq_iff_iff]; simp; omega
    · simp only [hj, decide_false, Bool.false_and]
      have : p % 64 ≠ j := by omega
      simp [this]
  · rename_i h
    by_cases hj : j < 64
    · have : ¬ p = 64 * i + j := by omega
      simp [this]
    · simp [hj]
theorem sc_with (n p : Nat) (_ : p < 256) : (sc n).setIfInBounds (p / 64) (.int .u64 ((word n (p / 64) ||| 2 ^ (p % 64) : Nat) : Int)) = sc (n ||| 2 ^ p) := by
  refine sc_ext (by simp [sc]) fun i hi => ?_
  rw [word_or, word_pow]
  by_cases h : p / 64 = i
  · subst h
    rw [if_pos rfl, Array.getElem?_setIfInBounds_self_of_lt (by show p / 64 < 4; omega)]
  · rw [if_neg h, Array.getElem?_setIfInBounds_ne h, sc_get n i hi, Nat.or_zero]
theorem sc_one (n : Nat) : ∀ v ∈ (sc n).toList, v.oneCell' = true := by
  intro v hv
  simp [sc] at hv
  rcases hv with rfl | rfl | rfl | rfl <;> rfl

/-! ### may, at, With, Has -/
def mayB (p : Int) : Bool := decide (0 ≤ p) && decide (p < 256)

theorem ent156 : enters Try.prog 156 = true := by kernel_rfl
theorem c156 (p : Int) (w : World) : Fun Try.prog 156 [.int .i64 p] w fun v w' => v = .bool (mayB p) ∧ w' = w := by
  refine fun_of_W (N := 9) Try.func156 ent156 rfl rfl rfl (by simp) ?_
  refine cond_split (fun h => ?_) (fun h => ?_)
  · refine cond_yes h ?_
    refine cond_yes h ?_
    refine ⟨?_, rfl⟩
    have h' : decide (0 ≤ p) = true := h
    simp only [mayB, h', Bool.true_and]
    rfl
  · refine cond_no h ?_
    refine cond_no h ?_
    refine ⟨?_, rfl⟩
    have h' : decide (0 ≤ p) = false := h
    simp only [mayB, h', Bool.false_and]
    rfl

theorem ent157 : enters Try.prog 157 = true := by kernel_rfl
theorem c157 (p : Nat) (hp : p < 256) (w : World) : Fun Try.prog 157 [.int .i64 (p : Int)] w fun v w' => v = .tuple #[.int .i64 ((p / 64 : Nat) : Int), .int .u64 ((2 ^ (p % 64) : Nat) : Int)] ∧ Same w w' := by
  refine fun_of_W (N := 9) Try.func157 ent157 rfl rfl rfl (by simp) ?_
  refine draw_mix (fun _ => True) fol (by kernel_rfl) trivial ?_
  refine quiet (.int .i64 ((p / 64 : Nat) : Int)) (fun w _ => bin_quo_i64 (by omega) (by omega) (by omega) ⟨by simp, rfl⟩) ?_
  refine quiet (.int .i64 ((p % 64 : Nat) : Int)) (fun w _ => bin_rem_i64 (by omega) (by omega) ⟨by simp, rfl⟩) ?_
  refine quiet (.int .u64 ((2 ^ (p % 64) : Nat) : Int)) (fun w _ => bin_shl_u64 (x := 1) (n := p % 64) (by omega) ?_ ⟨by simp, rfl⟩) ?_
  · have : 2 ^ (p % 64) < 2 ^ 64 := Nat.pow_lt_pow_right (by decide) (by omega)
    omega
  exact ⟨rfl, Keeps.drew w⟩

theorem zero24 : zeroT Try.prog 24 = some (.agg #[.int .u64 0, .int .u64 0, .int .u64 0, .int .u64 0]) := by kernel_rfl
theorem agg24 : aggT Try.prog 24 = some true := by kernel_rfl
theorem size24 : sizeT Try.prog 24 = some 4 := by kernel_rfl
theorem agg22 : aggT Try.prog 22 = some false := by kernel_rfl
theorem size22 : sizeT Try.prog 22 = some 1 := by kernel_rfl

theorem ent46 : enters Try.prog 46 = true := by kernel_rfl
theorem c46_yes (n p : Nat) (hp : p < 256) (w : World) : Fun Try.prog 46 [sv n, .int .i64 (p : Int)] w fun v w' => v = sv (n ||| 2 ^ p) ∧ Same w w' := by
  refine fun_of_W (N := 21) Try.func46 ent46 rfl rfl rfl (by simp) ?_
  have H := Hp.start0 w
  refine H.box 24 (sv n) (cs := sc n) rfl ?_
  intro g1 w1 H
  refine H.alloc 24 (cs := sc 0) zero24 sc_zero ?_
  intro g2 w2 H
  refine call_fn (c156 _ _) ?_
  rintro v w2' ⟨rfl, rfl⟩
  refine cond_yes (by simp [mayB]; omega) ?_
  refine call_fn (c157 p hp _) ?_
  rintro v w3 ⟨rfl, hk⟩
  have H := H.same hk
  refine idxAddr_arr Try.underlying24 size22 (p / 64) rfl (by omega) (o' := p / 64) (by omega) ?_
  refine H.load 1 rfl agg22 (sc_get n (p / 64) (by omega)) ?_
  refine bin_or_u64 (word_lt _ _) ?_ ?_
  · have : 2 ^ (p % 64) < 2 ^ 64 := Nat.pow_lt_pow_right (by decide) (by omega)
    omega
  refine idxAddr_arr Try.underlying24 size22 (p / 64) rfl (by omega) (o' := p / 64) (by omega) ?_
  refine H.store 1 rfl size22 (by show p / 64 < 4; omega) rfl ?_
  rw [sc_with n p hp]
  intro w4 H
  refine H.loadAll 1 rfl agg24 size24 ?_
  refine H.storeAll 0 rfl size24 rfl (sc_one _) ?_
  intro w5 H
  refine H.loadAll 0 rfl agg24 size24 ?_
  exact ⟨rfl, rfl, H.keeps⟩
theorem c46_no (n : Nat) (p : Int) (hp : mayB p = false) (w : World) : Fun Try.prog 46 [sv n, .int .i64 p] w fun v w' => v = sv n ∧ Same w w' := by
  refine fun_of_W (N := 21) Try.func46 ent46 rfl rfl rfl (by simp) ?_
  have H := Hp.start0 w
  refine H.box 24 (sv n) (cs := sc n) rfl ?_
  intro g1 w1 H
  refine H.alloc 24 (cs := sc 0) zero24 sc_zero ?_
  intro g2 w2 H
  refine call_fn (c156 _ _) ?_
  rintro v w2' ⟨rfl, rfl⟩
  refine cond_no hp ?_
  refine H.loadAll 1 rfl agg24 size24 ?_
  refine H.storeAll 0 rfl size24 rfl (sc_one _) ?_
  intro w5 H
  refine H.loadAll 0 rfl agg24 size24 ?_
  exact ⟨rfl, rfl, H.keeps⟩
/-- With. -/
def withI (n : Nat) (p : Int) : Nat := if mayB p then n ||| 2 ^ p.toNat else n
theorem c46 (n : Nat) (p : Int) (w : World) : Fun Try.prog 46 [sv n, .int .i64 p] w fun v w' => v = sv (withI n p) ∧ Same w w' := by
  cases h : mayB p with
  | true =>
    have h' : 0 ≤ p ∧ p < 256 := by simpa [mayB] using h
    obtain ⟨q, rfl⟩ := Int.eq_ofNat_of_zero_le h'.1
    have := c46_yes n q (by omega) w
    simpa [withI, h] using this
  | false => simpa [withI, h] using c46_no n p h w

theorem word_and (n m i : Nat) : word (n &&& m) i = word n i &&& word m i := by
  apply Nat.eq_of_testBit_eq; intro j
  rw [Nat.testBit_and, testBit_word, testBit_word, testBit_word, Nat.testBit_and]
  cases decide (j < 64) <;> simp
theorem word_less {n : Nat} (hn : n < 2 ^ 256) (m i : Nat) : word (lessN n m) i = word n i &&& (18446744073709551615 - word m i) := by
  apply Nat.eq_of_testBit_eq; intro j
  have e : (18446744073709551615 - word m i : Nat) = 2 ^ 64 - (word m i + 1) := by have := word_lt m i; omega
  rw [Nat.testBit_and, testBit_word, testBit_word, e, Nat.testBit_two_pow_sub_succ (word_lt m i), testBit_word, testBit_lessN hn]
  by_cases hj : j < 64 <;> simp [hj]
theorem word_ext {n m : Nat} (hn : n < 2 ^ 256) (hm : m < 2 ^ 256) (h : ∀ i, i < 4 → word n i = word m i) : n = m := by
  refine set_ext hn hm fun p hp => ?_
  have := congrArg (fun x => Nat.testBit x (p % 64)) (h (p / 64) (by omega))
  simp only [testBit_word] at this
  have e : 64 * (p / 64) + p % 64 = p := by omega
  have hm : p % 64 < 64 := by omega
  simpa [hm, e] using this

theorem ent158 : enters Try.prog 158 = true := by kernel_rfl
theorem c158 (a b r : Nat) (g : FuncId) (op : Nat → Nat → Nat) (_ : ∀ x y : Nat, x < 18446744073709551616 → y < 18446744073709551616 → op x y < 18446744073709551616)
    (hr : ∀ i, i < 4 → word r i = op (word a i) (word b i))
    (hg : ∀ x y : Nat, x < 18446744073709551616 → y < 18446744073709551616 → ∀ w, Fun Try.prog g [.int .u64 (x : Int), .int .u64 (y : Int)] w fun v w' => v = .int .u64 (op x y : Int) ∧ Same w w') (w : World) :
    Fun Try.prog 158 [sv a, sv b, .func (.func g) #[] #[]] w fun v w' => v = sv r ∧ Same w w' := by
  refine fun_of_W (N := 24) Try.func158 ent158 rfl rfl rfl (by simp) ?_
  have H := Hp.start0 w
  refine H.box 24 (sv a) (cs := sc a) rfl ?_
  intro g1 w1 H
  refine H.box 24 (sv b) (cs := sc b) rfl ?_
  intro g2 w2 H
  refine H.alloc 24 (cs := sc 0) zero24 sc_zero ?_
  intro g3 w3 H
  refine H.alloc 24 (cs := sc 0) zero24 sc_zero ?_
  intro g4 w4 H
  refine loop_rule (γ := Nat) _ rfl (fun i => [(9, .int .i64 (i : Int))])
    (fun i w' => i ≤ 4 ∧ ∃ cs : Array Value, cs.size = 4 ∧ (∀ j, j < i → cs[j]? = some (.int .u64 (word r j : Int))) ∧ Hp w (fun _ => False) w' [blk g4 24 cs, blk g3 24 (sc 0), blk g2 24 (sc b), blk g1 24 (sc a)] [])
    (fun i => 4 - i) 0 ⟨rfl, trivial⟩ ⟨by omega, sc 0, rfl, by omega, H⟩ ?_
  clear H
  rintro i u w5 ⟨hi, cs, hcs, hpre, H⟩
  refine cond_split (fun h => ?_) (fun h => ?_)
  · have hi4 : i < 4 := by have := of_decide_eq_true h; omega
    refine draw_mix (fun w' => Hp w (fun _ => False) w' [blk g4 24 cs, blk g3 24 (sc 0), blk g2 24 (sc b), blk g1 24 (sc a)] []) fol (by kernel_rfl) (H.same (Keeps.drew _)) ?_
    refine quiet (.pointer (some ⟨g1, i, none⟩)) (fun w _ => idxAddr_arr Try.underlying24 size22 i rfl hi4 (by omega) ⟨rfl, rfl⟩) ?_
    refine quiet (.int .u64 (word a i : Int)) (fun w H => H.load 3 rfl agg22 (sc_get a i hi4) ⟨rfl, rfl⟩) ?_
    refine quiet (.pointer (some ⟨g2, i, none⟩)) (fun w _ => idxAddr_arr Try.underlying24 size22 i rfl hi4 (by omega) ⟨rfl, rfl⟩) ?_
    refine quiet (.int .u64 (word b i : Int)) (fun w H => H.load 2 rfl agg22 (sc_get b i hi4) ⟨rfl, rfl⟩) ?_
    refine call_fn (hg _ _ (word_lt _ _) (word_lt _ _) _) ?_
    rintro v w6 ⟨rfl, hk⟩
    have H := (H.same (Keeps.drew _)).same hk
    refine ⟨.inl H, ?_⟩
    refine quiet (.pointer (some ⟨g4, i, none⟩)) (fun w _ => idxAddr_arr Try.underlying24 size22 i rfl hi4 (by omega) ⟨rfl, rfl⟩) ?_
    refine H.store 0 rfl size22 (by omega) rfl ?_
    intro w7 H
    refine ⟨.inr (by kernel_rfl), ?_⟩
    refine ⟨i + 1, by omega, ⟨congrArg (Value.int .i64) (wrap_i64_in (by omega) (by omega)), trivial⟩, by omega, _, ?_, ?_, H⟩
    · simpa using hcs
    · intro j hj
      by_cases hji : j = i
      · subst hji; rw [Array.getElem?_setIfInBounds_self_of_lt (by omega), hr j hi4]
      · rw [Array.getElem?_setIfInBounds_ne (Ne.symm hji)]; exact hpre j (by omega)
  · have hi4 : i = 4 := by have := of_decide_eq_false h; omega
    subst hi4
    obtain rfl := sc_ext hcs hpre
    refine H.loadAll 0 rfl agg24 size24 ?_
    refine H.storeAll 1 rfl size24 rfl (sc_one _) ?_
    intro w6 H
    refine H.loadAll 1 rfl agg24 size24 ?_
    exact ⟨rfl, rfl, H.keeps⟩

theorem ent159 : enters Try.prog 159 = true := by kernel_rfl
theorem c159 (x y : Nat) (hx : x < 18446744073709551616) (hy : y < 18446744073709551616) (w : World) : Fun Try.prog 159 [.int .u64 (x : Int), .int .u64 (y : Int)] w fun v w' => v = .int .u64 ((x ||| y : Nat) : Int) ∧ Same w w' := by
  refine fun_of_W (N := 8) Try.func159 ent159 rfl rfl rfl (by simp) ?_
  refine bin_or_u64 hx hy ?_
  exact ⟨rfl, Keeps.refl _ _⟩
theorem ent160 : enters Try.prog 160 = true := by kernel_rfl
theorem c160 (x y : Nat) (hx : x < 18446744073709551616) (hy : y < 18446744073709551616) (w : World) : Fun Try.prog 160 [.int .u64 (x : Int), .int .u64 (y : Int)] w fun v w' => v = .int .u64 ((x &&& y : Nat) : Int) ∧ Same w w' := by
  refine fun_of_W (N := 8) Try.func160 ent160 rfl rfl rfl (by simp) ?_
  refine bin_and_u64 hx hy ?_
  exact ⟨rfl, Keeps.refl _ _⟩
theorem ent161 : enters Try.prog 161 = true := by kernel_rfl
theorem c161 (x y : Nat) (hx : x < 18446744073709551616) (hy : y < 18446744073709551616) (w : World) : Fun Try.prog 161 [.int .u64 (x : Int), .int .u64 (y : Int)] w fun v w' => v = .int .u64 ((x &&& (18446744073709551615 - y) : Nat) : Int) ∧ Same w w' := by
  refine fun_of_W (N := 8) Try.func161 ent161 rfl rfl rfl (by simp) ?_
  refine bin_andNot_u64 hx hy ?_
  exact ⟨rfl, Keeps.refl _ _⟩

theorem ent50 : enters Try.prog 50 = true := by kernel_rfl
theorem c50 (a b : Nat) (w : World) : Fun Try.prog 50 [sv a, sv b] w fun v w' => v = sv (a ||| b) ∧ Same w w' := by
  refine fun_of_W (N := 8) Try.func50 ent50 rfl rfl rfl (by simp) ?_
  have H := Hp.start0 w
  refine H.box 24 (sv a) (cs := sc a) rfl ?_
  intro g1 w1 H
  refine H.box 24 (sv b) (cs := sc b) rfl ?_
  intro g2 w2 H
  refine H.alloc 24 (cs := sc 0) zero24 sc_zero ?_
  intro g3 w3 H
  refine H.loadAll 2 rfl agg24 size24 ?_
  refine H.loadAll 1 rfl agg24 size24 ?_
  refine call_fn (c158 a b (a ||| b) 159 (· ||| ·) (fun x y hx hy => Nat.or_lt_two_pow (n := 64) hx hy) (fun i _ => word_or a b i) c159 _) ?_
  rintro v w4 ⟨rfl, hk⟩
  have H := H.same hk
  refine H.storeAll 0 rfl size24 rfl (sc_one _) ?_
  intro w5 H
  refine H.loadAll 0 rfl agg24 size24 ?_
  exact ⟨rfl, rfl, H.keeps⟩
theorem ent51 : enters Try.prog 51 = true := by kernel_rfl
theorem c51 (a b : Nat) (w : World) : Fun Try.prog 51 [sv a, sv b] w fun v w' => v = sv (a &&& b) ∧ Same w w' := by
  refine fun_of_W (N := 8) Try.func51 ent51 rfl rfl rfl (by simp) ?_
  have H := Hp.start0 w
  refine H.box 24 (sv a) (cs := sc a) rfl ?_
  intro g1 w1 H
  refine H.box 24 (sv b) (cs := sc b) rfl ?_
  intro g2 w2 H
  refine H.alloc 24 (cs := sc 0) zero24 sc_zero ?_
  intro g3 w3 H
  refine H.loadAll 2 rfl agg24 size24 ?_
  refine H.loadAll 1 rfl agg24 size24 ?_
  refine call_fn (c158 a b (a &&& b) 160 (· &&& ·) (fun x y hx _ => Nat.lt_of_le_of_lt Nat.and_le_left hx) (fun i _ => word_and a b i) c160 _) ?_
  rintro v w4 ⟨rfl, hk⟩
  have H := H.same hk
  refine H.storeAll 0 rfl size24 rfl (sc_one _) ?_
  intro w5 H
  refine H.loadAll 0 rfl agg24 size24 ?_
  exact ⟨rfl, rfl, H.keeps⟩
theorem ent52 : enters Try.prog 52 = true := by kernel_rfl
theorem c52 (a b : Nat) (ha : a < 2 ^ 256) (w : World) : Fun Try.prog 52 [sv a, sv b] w fun v w' => v = sv (lessN a b) ∧ Same w w' := by
  refine fun_of_W (N := 8) Try.func52 ent52 rfl rfl rfl (by simp) ?_
  have H := Hp.start0 w
  refine H.box 24 (sv a) (cs := sc a) rfl ?_
  intro g1 w1 H
  refine H.box 24 (sv b) (cs := sc b) rfl ?_
  intro g2 w2 H
  refine H.alloc 24 (cs := sc 0) zero24 sc_zero ?_
  intro g3 w3 H
  refine H.loadAll 2 rfl agg24 size24 ?_
  refine H.loadAll 1 rfl agg24 size24 ?_
  refine call_fn (c158 a b (lessN a b) 161 (fun x y => x &&& (18446744073709551615 - y)) (fun x y hx _ => Nat.lt_of_le_of_lt Nat.and_le_left hx) (fun i _ => word_less ha b i) c161 _) ?_
  rintro v w4 ⟨rfl, hk⟩
  have H := H.same hk
  refine H.storeAll 0 rfl size24 rfl (sc_one _) ?_
  intro w5 H
  refine H.loadAll 0 rfl agg24 size24 ?_
  exact ⟨rfl, rfl, H.keeps⟩

/-- Has. -/
def hasI (n : Nat) (p : Int) : Bool := mayB p && n.testBit p.toNat
theorem word_bit (n p : Nat) : decide ((0 : Int) < ((word n (p / 64) &&& 2 ^ (p % 64) : Nat) : Int)) = n.testBit p := by
  have e : 64 * (p / 64) + p % 64 = p := by omega
  have hb : (word n (p / 64)).testBit (p % 64) = n.testBit p := by
    rw [testBit_word, e]; have : p % 64 < 64 := by omega
    simp [this]
  rw [← hb]
  by_cases h : (word n (p / 64)).testBit (p % 64) = true
  · rw [h]
    have : word n (p / 64) &&& 2 ^ (p % 64) ≠ 0 := by
      intro hz
      have := congrArg (fun x => Nat.testBit x (p % 64)) hz
      simp [Nat.testBit_and, h, Nat.testBit_two_pow_self] at this
    simp; omega
  · simp only [Bool.not_eq_true] at h
    rw [h]
    have : word n (p / 64) &&& 2 ^ (p % 64) = 0 := by
      apply Nat.eq_of_testBit_eq; intro j
      rw [Nat.testBit_and, Nat.testBit_two_pow, Nat.zero_testBit]
      by_cases hj : p % 64 = j
      · subst hj; simp [h]
      · simp [hj]
    simp [this]
theorem ent44 : enters Try.prog 44 = true := by kernel_rfl
theorem c44_yes (n p : Nat) (hp : p < 256) (w : World) : Fun Try.prog 44 [sv n, .int .i64 (p : Int)] w fun v w' => v = .bool (n.testBit p) ∧ Same w w' := by
  refine fun_of_W (N := 21) Try.func44 ent44 rfl rfl rfl (by simp) ?_
  have H := Hp.start0 w
  refine H.box 24 (sv n) (cs := sc n) rfl ?_
  intro g1 w1 H
  refine call_fn (c156 _ _) ?_
  rintro v w2' ⟨rfl, rfl⟩
  refine cond_no (by simp [mayB]; omega) ?_
  refine call_fn (c157 p hp _) ?_
  rintro v w3 ⟨rfl, hk⟩
  have H := H.same hk
  refine idxAddr_arr Try.underlying24 size22 (p / 64) rfl (by omega) (o' := p / 64) (by omega) ?_
  refine H.load 0 rfl agg22 (sc_get n (p / 64) (by omega)) ?_
  refine bin_and_u64 (word_lt _ _) ?_ ?_
  · have : 2 ^ (p % 64) < 2 ^ 64 := Nat.pow_lt_pow_right (by decide) (by omega)
    omega
  exact ⟨congrArg Value.bool (word_bit n p), H.keeps⟩
theorem c44_no (n : Nat) (p : Int) (hp : mayB p = false) (w : World) : Fun Try.prog 44 [sv n, .int .i64 p] w fun v w' => v = .bool false ∧ Same w w' := by
  refine fun_of_W (N := 21) Try.func44 ent44 rfl rfl rfl (by simp) ?_
  have H := Hp.start0 w
  refine H.box 24 (sv n) (cs := sc n) rfl ?_
  intro g1 w1 H
  refine call_fn (c156 _ _) ?_
  rintro v w2' ⟨rfl, rfl⟩
  refine cond_yes (by simp [hp]) ?_
  exact ⟨rfl, H.keeps⟩
theorem c44 (n : Nat) (p : Int) (w : World) : Fun Try.prog 44 [sv n, .int .i64 p] w fun v w' => v = .bool (hasI n p) ∧ Same w w' := by
  cases h : mayB p with
  | true =>
    have h' : 0 ≤ p ∧ p < 256 := by simpa [mayB] using h
    obtain ⟨q, rfl⟩ := Int.eq_ofNat_of_zero_le h'.1
    have := c44_yes n q (by omega) w
    simpa [hasI, h] using this
  | false => simpa [hasI, h] using c44_no n p h w

/-! ### List -/
theorem T32 : SlT Try.prog 32 3 (.int .i64 0) 1 8 := ⟨Try.underlying32, by kernel_rfl, rfl, by decide⟩
theorem agg3 : aggT Try.prog 3 = some false := by kernel_rfl
theorem size3 : sizeT Try.prog 3 = some 1 := by kernel_rfl
/-- Numbers as cells. -/
def ints (l : List Nat) : List Value := l.map fun (p : Nat) => Value.int .i64 (p : Int)
theorem ints_length (l : List Nat) : (ints l).length = l.length := by simp [ints]
theorem ints_get {l : List Nat} {i : Nat} (hi : i < l.length) : (ints l)[i]? = some (.int .i64 (l[i] : Int)) := by simp [ints, hi]

theorem ent41 : enters Try.prog 41 = true := by kernel_rfl
theorem c41 (n : Nat) (w : World) : Fun Try.prog 41 [sv n] w fun v w' => ∃ A c, v = .slice A (pts n).length c ∧ NewR w w' (own 3 1 (.slice A (pts n).length c) (pts n).length (ints (pts n))) := by
  refine fun_of_W (N := 17) Try.func41 ent41 rfl rfl rfl (by simp) ?_
  have H := Hp.start0 w
  refine H.box 24 (sv n) (cs := sc n) rfl ?_
  intro g1 w1 H
  have H := H.ownNil 3 1
  refine loop_rule (γ := Nat × Option Addr × Nat) _ rfl (fun (i, A, c) => [(5, .int .i64 (i : Int)), (3, .slice A (bitsBelow n i).length c)])
    (fun (i, A, c) w' => i ≤ 256 ∧ Hp w (fun _ => False) w' [own 3 1 (.slice A (bitsBelow n i).length c) (bitsBelow n i).length (ints (bitsBelow n i)), blk g1 24 (sc n)] [])
    (fun (i, _, _) => 256 - i) (0, none, 0) ⟨rfl, rfl, trivial⟩ ⟨by decide, H⟩ ?_
  clear H
  rintro ⟨i, A, c⟩ u w2 ⟨hi, H⟩
  refine cond_split (fun h => ?_) (fun h => ?_)
  · have hi4 : i < 256 := by have := of_decide_eq_true h; omega
    refine H.loadAll 1 rfl agg24 size24 ?_
    refine call_fn (c44_yes n i hi4 _) ?_
    rintro v w3 ⟨rfl, hk⟩
    have H := H.same hk
    have hl := bitsBelow_le n i
    refine cond_split (fun hb => ?_) (fun hb => ?_)
    · refine H.buildOne T32 rfl ?_
      intro g2 w4 H
      refine H.appendOne 0 T32 rfl rfl (by omega) (by omega) ?_
      intro A' c' w5 H
      have e : bitsBelow n (i + 1) = bitsBelow n i ++ [i] := by rw [bitsBelow_succ, if_pos hb]
      have e1 : (bitsBelow n (i + 1)).length = (bitsBelow n i).length + 1 := by rw [e]; simp
      have e2 : ints (bitsBelow n (i + 1)) = ints (bitsBelow n i) ++ [.int .i64 (i : Int)] := by rw [e]; simp [ints]
      refine ⟨(i + 1, A', c'), by show 256 - (i + 1) < 256 - i; omega, ⟨congrArg (Value.int .i64) (wrap_i64_in (by omega) (by omega)), by rw [e1]; rfl, trivial⟩, by show i + 1 ≤ 256; omega, ?_⟩
      show Hp w _ _ [own 3 1 (.slice A' (bitsBelow n (i + 1)).length c') (bitsBelow n (i + 1)).length (ints (bitsBelow n (i + 1))), _] []
      rw [e1, e2]
      exact H
    · have e : bitsBelow n (i + 1) = bitsBelow n i := by rw [bitsBelow_succ, hb]; simp
      refine ⟨(i + 1, A, c), by show 256 - (i + 1) < 256 - i; omega, ⟨congrArg (Value.int .i64) (wrap_i64_in (by omega) (by omega)), by rw [e]; rfl, trivial⟩, by show i + 1 ≤ 256; omega, ?_⟩
      show Hp w _ _ [own 3 1 (.slice A (bitsBelow n (i + 1)).length c) (bitsBelow n (i + 1)).length (ints (bitsBelow n (i + 1))), _] []
      rw [e]
      exact H
  · have hi4 : i = 256 := by have := of_decide_eq_false h; omega
    subst hi4
    exact ⟨A, c, rfl, H.out⟩

theorem run_part {P : Program} {t : TypeId} (h : aggT P t = some false) {cs : Array Value} {o : Nat} {v : Value} (hv : cs[o]? = some v) (w : World) : (part t cs o).run P w = .ok v w := by
  simp [part, run_isAgg h, hv]
theorem run_eqInt {P : Program} {t : TypeId} {k : IntKind} (h : P.underlying t = some (.int k)) (d : Nat) (a b : Int) (w : World) : (Op.equalIn (d + 1) t (.int k a) (.int k b)).run P w = .ok (a == b) w := by
  simp [Op.equalIn, run_underlying h]
theorem egt24 : Try.prog.eqGuardType Try.prog.depth 24 = false := by kernel_rfl
theorem run_eq24 (a b : Nat) (ha : a < 2 ^ 256) (hb : b < 2 ^ 256) (w : World) : (Op.equal 24 (sv a) (sv b)).run Try.prog w = .ok (a == b) w := by
  have hp : ∀ (n i : Nat), i < 4 → ∀ w, (part 22 (sc n) i).run Try.prog w = .ok (.int .u64 (word n i : Int)) w := fun n i hi w => run_part agg22 (sc_get n i hi) w
  have he : (a == b) = ((word a 0 : Int) == (word b 0 : Int) && ((word a 1 : Int) == (word b 1 : Int) && ((word a 2 : Int) == (word b 2 : Int) && (word a 3 : Int) == (word b 3 : Int)))) := by
    rw [Bool.eq_iff_iff]
    simp only [beq_iff_eq, Bool.and_eq_true, Int.natCast_inj]
    constructor
    · rintro rfl; simp
    · rintro ⟨h0, h1, h2, h3⟩
      refine word_ext ha hb fun i hi => ?_
      match i, hi with
      | 0, _ => exact h0
      | 1, _ => exact h1
      | 2, _ => exact h2
      | 3, _ => exact h3
  have hr : ∀ d, (Op.equalIn (d + 2) 24 (.agg (sc a)) (.agg (sc b))).run Try.prog w = .ok (a == b) w := by
    intro d
    rw [he]
    rw [Op.equalIn]
    simp only [Sem.run_bind, run_underlying Try.underlying24, Result.andThen_ok, run_sizeOf size22]
    have i0 := run_eqInt Try.underlying22 d (word a 0 : Int) (word b 0 : Int)
    have i1 := run_eqInt Try.underlying22 d (word a 1 : Int) (word b 1 : Int)
    have i2 := run_eqInt Try.underlying22 d (word a 2 : Int) (word b 2 : Int)
    have i3 := run_eqInt Try.underlying22 d (word a 3 : Int) (word b 3 : Int)
    generalize ((word a 0 : Int) == (word b 0 : Int)) = b0 at *
    generalize ((word a 1 : Int) == (word b 1 : Int)) = b1 at *
    generalize ((word a 2 : Int) == (word b 2 : Int)) = b2 at *
    generalize ((word a 3 : Int) == (word b 3 : Int)) = b3 at *
    cases b0 <;> cases b1 <;> cases b2 <;> cases b3 <;>
      simp [Std.Legacy.Range.forIn_eq_forIn_range', List.range', hp, i0, i1, i2, i3, Std.Legacy.Range.size]
  have := hr 9998
  exact this

theorem bin_eql24 {a b : Nat} (ha : a < 2 ^ 256) (hb : b < 2 ^ 256) {xo yo : Operand} {w : World} {kk : Value → World → Prop} (h : kk (.bool (a == b)) w) : binK Try.prog .eql 24 xo yo (sv a) (sv b) w kk :=
  bin_eql_agg egt24 (run_eq24 a b ha hb) h
theorem bin_neq24 {a b : Nat} (ha : a < 2 ^ 256) (hb : b < 2 ^ 256) {xo yo : Operand} {w : World} {kk : Value → World → Prop} (h : kk (.bool (a != b)) w) : binK Try.prog .neq 24 xo yo (sv a) (sv b) w kk :=
  bin_neq_agg egt24 (run_eq24 a b ha hb) h
theorem build24 {w : World} {kk : Value → World → Prop} (h : kk (sv 0) w) : buildK Try.prog 24 [] w kk := by
  refine build_by (v := .agg #[.int .u64 0, .int .u64 0, .int .u64 0, .int .u64 0]) (fun w => by kernel_rfl) ?_
  rw [sc_zero]; exact h

theorem ent53 : enters Try.prog 53 = true := by kernel_rfl
theorem c53 (a b : Nat) (ha : a < 2 ^ 256) (w : World) : Fun Try.prog 53 [sv a, sv b] w fun v w' => v = .bool (lessN a b == 0) ∧ Same w w' := by
  refine fun_of_W (N := 10) Try.func53 ent53 rfl rfl rfl (by simp) ?_
  have H := Hp.start0 w
  refine H.box 24 (sv a) (cs := sc a) rfl ?_
  intro g1 w1 H
  refine H.box 24 (sv b) (cs := sc b) rfl ?_
  intro g2 w2 H
  refine H.loadAll 1 rfl agg24 size24 ?_
  refine H.loadAll 0 rfl agg24 size24 ?_
  refine call_fn (c52 a b ha _) ?_
  rintro v w4 ⟨rfl, hk⟩
  have H := H.same hk
  refine build24 ?_
  refine bin_eql24 (lessN_lt _ _) (by decide) ?_
  exact ⟨rfl, H.keeps⟩

theorem idx_arr22 {n i : Nat} (hi : i < 4) {w : World} {kk : Value → World → Prop} (h : kk (.int .u64 (word n i : Int)) w) : idxK Try.prog 24 (sv n) (.int .i64 (i : Int)) w kk := by
  unfold idxK
  refine ⟨_, w, ?_, h⟩
  simp only [sv, Instr.index, asIntOf, pure_bind, Sem.run_bind, run_underlying Try.underlying24, Result.andThen_ok]
  rw [if_pos ⟨by omega, by omega⟩]
  simp only [Sem.run_bind, run_sizeOf size22, Result.andThen_ok, Int.toNat_natCast, Nat.mul_one]
  exact run_part agg22 (sc_get n i hi) w

theorem popc_words {n : Nat} (hn : n < 2 ^ 256) : popc (word n 0) + popc (word n 1) + popc (word n 2) + popc (word n 3) = popc n := by
  have e0 : word n 0 = n % 2 ^ 64 := by simp [word]
  have e1 : word n 1 = n / 2 ^ 64 % 2 ^ 64 := rfl
  have e2 : word n 2 = n / 2 ^ 64 / 2 ^ 64 % 2 ^ 64 := by rw [Nat.div_div_eq_div_mul]; rfl
  have e3 : word n 3 = n / 2 ^ 64 / 2 ^ 64 / 2 ^ 64 := by
    rw [Nat.div_div_eq_div_mul, Nat.div_div_eq_div_mul]
    show n / 2 ^ (64 * 3) % 2 ^ 64 = _
    exact Nat.mod_eq_of_lt (Nat.div_lt_of_lt_mul (by simpa using hn))
  rw [popc_split n 64, popc_split (n / 2 ^ 64) 64, popc_split (n / 2 ^ 64 / 2 ^ 64) 64, e0, e1, e2, e3]
  have : n / 2 ^ 64 / 2 ^ 64 / 2 ^ 64 < 2 ^ 64 := by rw [← e3]; exact Nat.mod_lt _ (by decide)
  omega
theorem popc_le (k : Nat) : ∀ n, n < 2 ^ k → popc n ≤ k := by
  induction k with
  | zero => intro n h; have : n = 0 := by simpa using h
            subst this; simp [popc_zero]
  | succ k ih =>
    intro n h
    rw [popc_step]
    have := ih (n / 2) (by rw [Nat.pow_succ] at h; omega)
    omega
def cnt (n i : Nat) : Nat := ((List.range i).map fun j => popc (word n j)).sum
theorem cnt_succ (n i : Nat) : cnt n (i + 1) = cnt n i + popc (word n i) := by simp [cnt, List.range_succ]
theorem cnt_le (n i : Nat) : cnt n i ≤ 64 * i := by
  induction i with
  | zero => simp [cnt]
  | succ i ih => rw [cnt_succ]; have := popc_le 64 (word n i) (word_lt n i); omega

theorem ent43 : enters Try.prog 43 = true := by kernel_rfl
theorem c43 (n : Nat) (hn : n < 2 ^ 256) (w : World) : Fun Try.prog 43 [sv n] w fun v w' => v = .int .i64 (popc n : Int) ∧ Same w w' := by
  refine fun_of_W (N := 20) Try.func43 ent43 rfl rfl rfl (by simp) ?_
  have H := Hp.start0 w
  refine H.box 24 (sv n) (cs := sc n) rfl ?_
  intro g1 w1 H
  refine H.loadAll 0 rfl agg24 size24 ?_
  refine loop_rule (γ := Nat) _ rfl (fun i => [(7, .int .i64 (i : Int)), (3, .int .i64 (cnt n i : Int))])
    (fun i w' => i ≤ 4 ∧ Hp w (fun _ => False) w' [blk g1 24 (sc n)] []) (fun i => 4 - i) 0 ⟨rfl, rfl, trivial⟩ ⟨by decide, H⟩ ?_
  clear H
  rintro i u w2 ⟨hi, H⟩
  refine cond_split (fun h => ?_) (fun h => ?_)
  · have hi4 : i < 4 := by have := of_decide_eq_true h; omega
    refine idx_arr22 hi4 ?_
    have hcl := cnt_le n i
    refine loop_rule (γ := Nat) _ rfl (fun x => [(5, .int .u64 (x : Int)), (3, .int .i64 ((cnt n i + (popc (word n i) - popc x) : Nat) : Int))])
      (fun x w' => x ≤ word n i ∧ popc x ≤ popc (word n i) ∧ Hp w (fun _ => False) w' [blk g1 24 (sc n)] []) (fun x => x) (word n i) ⟨rfl, by show Value.int .i64 _ = _; simp, trivial⟩ ⟨by omega, by omega, H⟩ ?_
    clear H
    rintro x u2 w3 ⟨hx, hpx, H⟩
    have hwl := word_lt n i
    have hp64 := popc_le 64 (word n i) hwl
    refine cond_split (fun h => ?_) (fun h => ?_)
    · have hx0 : 0 < x := by have := of_decide_eq_true h; omega
      have hstep := popc_and_pred (w := x) (by omega)
      refine bin_by_eq rfl (y' := ((x - 1 : Nat) : Int)) (by rw [wrap_u64_in (by omega) (by omega)]; omega) ?_
      refine bin_and_u64 (by omega) (by omega) ?_
      refine ⟨x &&& (x - 1), Nat.lt_of_le_of_lt Nat.and_le_right (by omega), ⟨rfl, congrArg (Value.int .i64) ?_, trivial⟩, Nat.le_trans Nat.and_le_left hx, by omega, H⟩
      rw [wrap_i64_in (by omega) (by omega)]; omega
    · have hx0 : x = 0 := by have := of_decide_eq_false h; omega
      subst hx0
      refine ⟨i + 1, by omega, ⟨congrArg (Value.int .i64) (wrap_i64_in (by omega) (by omega)), congrArg (Value.int .i64) ?_, trivial⟩, by omega, H⟩
      rw [cnt_succ, popc_zero]; rfl
  · have hi4 : i = 4 := by have := of_decide_eq_false h; omega
    subst hi4
    refine ⟨congrArg (Value.int .i64) ?_, H.keeps⟩
    rw [← popc_words hn]; simp [cnt, List.range_succ]; omega

import Derived.Test.YtjebpngdinbckaaV7
/- Arenas: the document's. -/
namespace Go.Proofs.Ytjebpngdinbckaa
open Go.Dk
attribute [local irreducible] IntKind.wrap

theorem ok_nil {room : Int} (h0 : 0 ≤ room) (hr : room ≤ 20000) : ArOk room [] := by
  refine ⟨⟨fun i j n h => ?_, fun i n h => ?_, fun i n h => ?_⟩, by simpa using h0, hr⟩ <;> (have := slot_lt h; simp at this)
theorem k65_1 : mkA 2 [] 5 0 1 = ([some ⟨5, 0, 1⟩], 2, 0) := by kernel_rfl
theorem k65_2 : mkA 2 [some ⟨5, 0, 1⟩] 3 2 1 = ([some ⟨5, 0, 1⟩, some ⟨3, 2, 1⟩], 3, 0) := by kernel_rfl
theorem k65_3 : mkA 2 [some ⟨5, 0, 1⟩, some ⟨3, 2, 1⟩] 5 0 1 = ([some ⟨5, 0, 1⟩, some ⟨3, 2, 1⟩], 2, 0) := by kernel_rfl
theorem k65_4 : mkA 2 [some ⟨5, 0, 1⟩, some ⟨3, 2, 1⟩] 4 0 1 = ([some ⟨5, 0, 1⟩, some ⟨3, 2, 1⟩], 0, 5) := by kernel_rfl
theorem k65_5 : liveA [some ⟨5, 0, 1⟩, some ⟨3, 2, 1⟩] = 2 := by kernel_rfl
theorem k65_6 : (reachL [some ⟨5, 0, 1⟩, some ⟨3, 2, 1⟩] 3).length = 2 := by kernel_rfl
theorem ent65 : enters Try.prog 65 = true := by kernel_rfl
theorem c65 (w : World) : Fun Try.prog 65 [] w fun v w' => v = .bool true ∧ Same w w' := by
  have o0 : ArOk 2 [] := ok_nil (by decide) (by decide)
  have o1 : ArOk 2 [some ⟨5, 0, 1⟩] := by have := ok_mk o0 5 0 1; rwa [k65_1] at this
  have o2 : ArOk 2 [some ⟨5, 0, 1⟩, some ⟨3, 2, 1⟩] := by have := ok_mk o1 3 2 1; rwa [k65_2] at this
  refine fun_of_W (N := 76) Try.func65 ent65 rfl rfl rfl (by simp) ?_
  have H := Hp.start0 w
  refine call_fn (c64_a 2 (by decide) (by decide) _) ?_
  rintro _ w1 ⟨g, r, rfl, hn⟩
  replace H := H.addNew hn
  clear hn
  refine call_fn (c68 5 0 1 (by decide) (by decide) (by decide) o0 _ (H.get 0 rfl)) ?_
  rintro _ w2 ⟨sv1, rfl, ht⟩
  replace H := H.turnBy 0 rfl ht
  clear ht
  rw [k65_1] at H ⊢
  refine call_fn (c68 3 2 1 (by decide) (by decide) (by decide) o1 _ (H.get 0 rfl)) ?_
  rintro _ w3 ⟨sv2, rfl, ht⟩
  replace H := H.turnBy 0 rfl ht
  clear ht
  rw [k65_2] at H ⊢
  refine call_fn (c68 5 0 1 (by decide) (by decide) (by decide) o2 _ (H.get 0 rfl)) ?_
  rintro _ w4 ⟨sv3, rfl, ht⟩
  replace H := H.turnBy 0 rfl ht
  clear ht
  rw [k65_3] at H ⊢
  refine call_fn (c68 4 0 1 (by decide) (by decide) (by decide) o2 _ (H.get 0 rfl)) ?_
  rintro _ w5 ⟨sv4, rfl, ht⟩
  replace H := H.turnBy 0 rfl ht
  clear ht
  rw [k65_4] at H ⊢
  iterate 23 refine cond_yes rfl ?_
  refine call_fn (c70 _ (H.get 0 rfl)) ?_
  rintro _ w29 ⟨rfl, hk⟩
  replace H := H.same hk
  clear hk
  rw [k65_5]
  iterate 4 refine cond_yes rfl ?_
  refine call_fn (c74 o2 3 (by decide) _ (H.get 0 rfl)) ?_
  rintro _ w34 ⟨B, c, rfl, hn⟩
  replace H := H.same hn.keeps
  clear hn
  rw [k65_6]
  refine cond_yes rfl ?_
  refine len_sl Try.underlying32 ?_
  iterate 2 refine cond_yes rfl ?_
  exact ⟨rfl, H.keeps⟩
theorem buildKeep {w0 w : World} {F : Nat → Prop} {L M : List Res} {k : Value → World → Prop} (H : Hp w0 F w L M) (n : Int)
    (h : ∀ g w', Hp w0 F w' (blk g 3 #[.int .i64 n] :: L) M → k (.slice (some ⟨g, 0, none⟩) 1 1) w') : buildSliceK Try.prog 32 1 [(0, .int .i64 n)] w k := H.buildOne T32 rfl h
theorem ent11 : enters Try.prog 11 = true := by kernel_rfl
theorem law11 (l : Int) (hl0 : -9223372036854775808 ≤ l) (hl : l < 9223372036854775808) (lo : Int) (hlo0 : -9223372036854775808 ≤ lo) (hlo : lo < 9223372036854775808) (hi : Int) (hhi0 : -9223372036854775808 ≤ hi) (hhi : hi < 9223372036854775808) (id : Int) (hid0 : -9223372036854775808 ≤ id) (hid : id < 9223372036854775808) (w : World) :
    Fun Try.prog 11 [.int .i64 l, .int .i64 lo, .int .i64 hi, .int .i64 id] w fun v w' => v = .bool true ∧ Same w w' := by
  have o0 : ArOk 0 [] := ok_nil (by decide) (by decide)
  refine fun_of_W (N := 98) Try.func11 ent11 rfl rfl rfl (by simp) ?_
  have H := Hp.start0 w
  refine call_fn (c68_nil _ _ _ _) ?_
  rintro _ w1 ⟨rfl, hk⟩
  replace H := H.same hk
  clear hk
  refine call_fn (c72_nil _ _) ?_
  rintro _ w2 ⟨rfl, hk⟩
  replace H := H.same hk
  clear hk
  refine H.buildOne T32 rfl ?_
  clear H
  intro g3 w3 H
  refine call_fn (c66_nil _ _) ?_
  rintro _ w4 ⟨rfl, hk⟩
  replace H := H.same hk
  clear hk
  refine call_fn (c64_a 0 (by decide) (by decide) _) ?_
  rintro _ w5 ⟨g, r, rfl, hn⟩
  replace H := H.addNew hn
  clear hn
  refine bin_eql59 ?_
  iterate 4 refine cond_no rfl ?_
  refine conv_int (by kernel_rfl) Try.underlying5 ?_
  refine conv_int (by kernel_rfl) Try.underlying3 ?_
  have hx : IntKind.i64.wrap (IntKind.u8.wrap id) = (((id % 256).toNat : Nat) : Int) := by
    rw [IntKind.wrap_u8, wrap_i64_in (by omega) (by omega)]; omega
  refine bin_by_eq hx rfl (bin_rem_i64 (by omega) (by omega) ?_)
  have hy2 : (((id % 256).toNat : Nat) : Int) % 2 < 9223372036854775808 := by omega
  generalize (((id % 256).toNat : Nat) : Int) % 2 = y at hy2 ⊢
  have hy : thereA [] y = false := by unfold thereA; rw [show slot [] (y - 2).toNat = none from rfl]; simp
  refine call_fn (c72_b _ hy2 hy _ (H.get 0 rfl)) ?_
  rintro _ w6 ⟨rfl, hk⟩
  replace H := H.same hk
  clear hk
  iterate 8 refine cond_yes rfl ?_
  refine call_fn (c70_nil _) ?_
  rintro _ w15 ⟨rfl, hk⟩
  replace H := H.same hk
  clear hk
  iterate 5 refine cond_yes rfl ?_
  refine call_fn (c74_nil _ _) ?_
  rintro _ w21 ⟨rfl, hk⟩
  replace H := H.same hk
  clear hk
  refine cond_yes rfl ?_
  refine len_sl Try.underlying32 ?_
  iterate 7 refine cond_yes rfl ?_
  refine call_fn (c74 o0 1 (by decide) _ (H.get 0 rfl)) ?_
  rintro _ w31 ⟨B, c, rfl, hn⟩
  replace H := H.same hn.keeps
  clear hn
  rw [show (reachL [] 1).length = 0 from rfl]
  refine cond_yes rfl ?_
  refine len_sl Try.underlying32 ?_
  iterate 3 refine cond_yes rfl ?_
  refine call_fn (c65 _) ?_
  rintro _ w37 ⟨rfl, hk⟩
  replace H := H.same hk
  clear hk
  refine cond_yes rfl ?_
  exact ⟨rfl, H.keeps⟩

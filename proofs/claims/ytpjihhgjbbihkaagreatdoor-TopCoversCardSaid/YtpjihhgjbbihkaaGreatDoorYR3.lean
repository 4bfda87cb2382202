import Derived.Test.YtpjihhgjbbihkaaGreatDoorTie
import Derived.Test.YtpjihhgjbbihkaaGreatDoorCards
import Derived.SevenTiedAt
import Derived.Test.YtpjihhgjbbihkaaGreatDoorPart6
/- TopCovers: true for every input, and the input stays as it was; its variables are tied to the program's text. -/
namespace Go.Proofs.YtpjihhgjbbihkaaGreatDoor
open Go.Dk Go.ChangeShapes Go.WideShapes Go.ChangeAt Go.RowKit
set_option maxRecDepth 100000
theorem call3 (W : World) (args : Array Value) (h : EA Tryz.prog Tryz.f3 W args) (hg : jD W) : Calls Tryz.prog 3 args W fun e W' => e = .returned (.bool true) ∧ aT W W' := by
  obtain ⟨⟨base, hval⟩, H, enc, ds, ps, hA⟩ := h
  rw [Tryz.params3] at hA hval
  obtain ⟨v0, vs0, d0, ds0, p0, q0, hargs, rfl, rfl, h0, r0⟩ := trodAll_cons hA
  obtain ⟨v1, vs1, d1, ds1, p1, q1, rfl, rfl, rfl, h1, r1⟩ := trodAll_cons r0
  obtain ⟨v2, vs2, d2, ds2, p2, q2, rfl, rfl, rfl, h2, r2⟩ := trodAll_cons r1
  obtain ⟨v3, vs3, d3, ds3, p3, q3, rfl, rfl, rfl, h3, r3⟩ := trodAll_cons r2
  obtain ⟨rfl, rfl, rfl⟩ := trodAll_nil r3
  obtain rfl : args = #[v0, v1, v2, v3] := by cases args; simp_all
  obtain ⟨l0, k0, rfl⟩ := arg_str (hval 0 9 v0 rfl rfl) h0
  obtain ⟨n1, s1, rfl⟩ := Bt (hval 1 23 v1 rfl rfl) h1
  obtain ⟨p, hp, rfl⟩ : ∃ p : Nat, p < 256 ∧ v2 = .int .u8 (p : Int) := by
    obtain ⟨p, e, hp⟩ := EB Tryz.underlying5 (hval 2 5 v2 rfl rfl) h2
    exact ⟨p, hp, e⟩
  obtain ⟨o, ho, rfl⟩ : ∃ p : Nat, p < 256 ∧ v3 = .int .u8 (p : Int) := by
    obtain ⟨p, e, hp⟩ := EB Tryz.underlying5 (hval 3 5 v3 rfl rfl) h3
    exact ⟨p, hp, e⟩
  exact (c3 l0 k0 n1 s1 p o hp ho W hg).answers
theorem holds3 : Rows.TopCoversSaid :=
  OpenClaim.holds_of_wide 3 Tryz.f3 rfl rfl rfl rfl rfl rfl rfl ⟨rfl, rfl, rfl, rfl, rfl⟩ rfl rfl rfl rfl rfl (by kernel_rfl) Tryz.func3 (by kernel_rfl)
    (of_decide_eq_true (by kernel_rfl)) (by unfold Func.isWrapper; first | (rw [if_pos (by decide +kernel)]; kernel_rfl) | (rw [if_neg (by decide +kernel)]; exact ⟨rfl, rfl⟩))
    (fun os started H enc _ => IN (g := 3) (f := Tryz.f3) (s := Rows.topCoversSpec) os started H enc (by kernel_rfl) Tryz.func3 (by kernel_rfl) rfl rfl
      (fun ds hds => by
        match ds, hds with
        | [_, _, _, _], _ => rfl)
      (ChangeSpec.witness_shaped (enc := enc) (C := Tryz.checked) (os := os) (X := fun w _ => laidMetH Tryz.prog oq w) false (World.laidAll Tryz.prog os oq) #[aU [], D4 0 0, .int .u8 0, .int .u8 0] 8 (World.laidAll_os _ _ _)
        (IP os _) (by kernel_rfl) (by kernel_rfl) (by kernel_rfl) (O4 os _)) call3)
theorem card3 : Rows.TopCoversCardSaid :=
  Claim7.holds_tied_plain_at .later [] [.data, .data, .data, .data, .sentinel, .sentinel, .pinned] true (true, "28a9c630e3cce05e69cf30783867131db578b3b0b47e3b3e008352cde311b633") true holds3 (fun _ h => by cases h) (by kernel_rfl) (fun _ h => by cases h) topCovers_row_tie rfl ⟨rfl, rfl⟩ (by kernel_rfl) rfl
    (fun f fn hf hfn => by
      obtain rfl : f = 3 := Option.some.inj ((show Tryz.prog.funcNamed "drawknife/drawknifetop.TopCovers" = some 3 by kernel_rfl).symm.trans hf) |>.symm
      obtain rfl : fn = Tryz.f3 := (Option.some.inj (Tryz.func3.symm.trans hfn)).symm
      exact ⟨by kernel_rfl, fun j t ht => by
        rw [Tryz.params3] at ht
        have hm : t ∈ [9, 23, 5, 5] := by simpa using Array.mem_of_getElem? ht
        have hall : (([9, 23, 5, 5] : List TypeId).all fun u => !Tryz.prog.wantsStandIn u) = true := by kernel_rfl
        exact (show Tryz.prog.wantsStandIn t = false by simpa using List.all_eq_true.1 hall t hm)⟩)
    (by kernel_rfl)
end Go.Proofs.YtpjihhgjbbihkaaGreatDoor

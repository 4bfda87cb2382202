import Derived.Test.YtpjihhgjbbihkaaGreatDoorTie
import Derived.Test.YtpjihhgjbbihkaaGreatDoorCards
import Derived.SevenTiedAt
import Derived.Test.YtpjihhgjbbihkaaGreatDoorPart6
/- TopNeeded: true for every input, and the input stays as it was; its variables are tied to the program's text. -/
namespace Go.Proofs.YtpjihhgjbbihkaaGreatDoor
open Go.Dk Go.ChangeShapes Go.WideShapes Go.ChangeAt Go.RowKit
set_option maxRecDepth 100000
theorem call5 (W : World) (args : Array Value) (h : Ek Tryz.prog Tryz.f5 W args) (hg : jA W) : Calls Tryz.prog 5 args W fun e W' => e = .returned (.bool true) ∧ aT W W' := by
  obtain ⟨⟨base, hval⟩, H, enc, ds, ps, hA⟩ := h
  rw [Tryz.params5] at hA hval
  obtain ⟨v0, vs0, d0, ds0, p0, q0, hargs, rfl, rfl, h0, r0⟩ := trodAll_cons hA
  obtain ⟨v1, vs1, d1, ds1, p1, q1, rfl, rfl, rfl, h1, r1⟩ := trodAll_cons r0
  obtain ⟨rfl, rfl, rfl⟩ := trodAll_nil r1
  obtain rfl : args = #[v0, v1] := by cases args; simp_all
  obtain ⟨l0, k0, rfl⟩ := arg_str (hval 0 9 v0 rfl rfl) h0
  obtain ⟨n1, s1, rfl⟩ := Bq (hval 1 23 v1 rfl rfl) h1
  exact (c5 l0 k0 n1 s1 W hg).answers
theorem holds5 : Rows.TopNeededSaid :=
  OpenClaim.holds_of_wide 5 Tryz.f5 rfl rfl rfl rfl rfl rfl rfl ⟨rfl, rfl, rfl, rfl, rfl⟩ rfl rfl rfl rfl rfl (by kernel_rfl) Tryz.func5 (by kernel_rfl)
    (of_decide_eq_true (by kernel_rfl)) (by unfold Func.isWrapper; first | (rw [if_pos (by decide +kernel)]; kernel_rfl) | (rw [if_neg (by decide +kernel)]; exact ⟨rfl, rfl⟩))
    (fun os started H enc _ => IB (g := 5) (f := Tryz.f5) (s := Rows.topNeededSpec) os started H enc (by kernel_rfl) Tryz.func5 (by kernel_rfl) rfl rfl
      (fun ds hds => by
        match ds, hds with
        | [_, _], _ => rfl)
      (ChangeSpec.witness_shaped (enc := enc) (C := Tryz.checked) (os := os) (X := fun w _ => laidMetH Tryz.prog n9 w) false (World.laidAll Tryz.prog os n9) #[aU [], Gw 0 0] 8 (World.laidAll_os _ _ _)
        (IC os _) (by kernel_rfl) (by kernel_rfl) (by kernel_rfl) (OI os _)) call5)
theorem card5 : Rows.TopNeededCardSaid :=
  Claim7.holds_tied_plain_at .later [] [.data, .data, .data, .data, .sentinel, .sentinel, .pinned] true (true, "28a9c630e3cce05e69cf30783867131db578b3b0b47e3b3e008352cde311b633") true holds5 (fun _ h => by cases h) (by kernel_rfl) (fun _ h => by cases h) topNeeded_row_tie rfl ⟨rfl, rfl⟩ (by kernel_rfl) rfl
    (fun f fn hf hfn => by
      obtain rfl : f = 5 := Option.some.inj ((show Tryz.prog.funcNamed "drawknife/drawknifetop.TopNeeded" = some 5 by kernel_rfl).symm.trans hf) |>.symm
      obtain rfl : fn = Tryz.f5 := (Option.some.inj (Tryz.func5.symm.trans hfn)).symm
      exact ⟨by kernel_rfl, fun j t ht => by
        rw [Tryz.params5] at ht
        have hm : t ∈ [9, 23] := by simpa using Array.mem_of_getElem? ht
        have hall : (([9, 23] : List TypeId).all fun u => !Tryz.prog.wantsStandIn u) = true := by kernel_rfl
        exact (show Tryz.prog.wantsStandIn t = false by simpa using List.all_eq_true.1 hall t hm)⟩)
    (by kernel_rfl)
end Go.Proofs.YtpjihhgjbbihkaaGreatDoor

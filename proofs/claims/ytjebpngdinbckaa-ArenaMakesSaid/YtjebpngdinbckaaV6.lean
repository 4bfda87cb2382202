import Derived.Test.YtjebpngdinbckaaV5
/- Arenas: Reach and Sweep. -/
namespace Go.Proofs.Ytjebpngdinbckaa
open Go.Dk
attribute [local irreducible] IntKind.wrap

theorem arR_foot' {g r : Nat} {B : Option Addr} {c n : Nat} {room : Int} {A : Ar} {N : List Slot} {l : List (Nd × Nat)} {x : Nat} (h : (arR g r (.slice B n c) room A).foot x) : ∃ s ∈ [blk g 199 (arV B n c room r), own 202 3 (.slice B n c) n (flat encS N), mapR kaN vbN r l], s.foot x := by
  obtain ⟨s, hs, hx⟩ := h
  simp only [arP, List.mem_cons, List.not_mem_nil, or_false] at hs
  rcases hs with rfl | rfl | rfl
  · exact ⟨_, .head _, hx⟩
  · exact ⟨_, .tail _ (.head _), hx⟩
  · exact ⟨_, .tail _ (.tail _ (.head _)), hx⟩
def reachTo (met : List Bool) (k : Nat) : List Nat := ((List.range k).filter (mb met)).map (· + 2)
theorem reachTo_succ (met : List Bool) (k : Nat) : reachTo met (k + 1) = if mb met k then reachTo met k ++ [k + 2] else reachTo met k := by
  unfold reachTo
  rw [List.range_succ, List.filter_append]
  by_cases h : mb met k = true
  · rw [if_pos h, List.filter_cons_of_pos h, List.filter_nil, List.map_append]; rfl
  · rw [if_neg h, List.filter_cons_of_neg h, List.filter_nil, List.append_nil]
theorem reachTo_le (met : List Bool) (k : Nat) : (reachTo met k).length ≤ k := by
  unfold reachTo; rw [List.length_map]; exact Nat.le_trans (List.length_filter_le _ _) (by simp)
def reachL (A : Ar) (id : Int) : List Nat := reachTo (markA A 26 id (List.replicate A.length false)) A.length
theorem lvlA_ge (A : Ar) (id : Int) : -1 ≤ lvlA A id := by
  unfold lvlA
  split
  · omega
  · split
    · split <;> omega
    · omega
theorem ent74 : enters Try.prog 74 = true := by kernel_rfl
theorem c74_nil (id : Int) (w : World) : Fun Try.prog 74 [.pointer none, .int .i64 id] w fun v w' => v = .slice none 0 0 ∧ Same w w' := by
  refine fun_of_W (N := 36) Try.func74 ent74 rfl rfl rfl (by simp) ?_
  have H := Hp.start0 w
  refine bin_eql59z ?_
  refine cond_yes rfl ?_
  exact ⟨rfl, H.keeps⟩
theorem c74 {g r : Nat} {sv : Value} {room : Int} {A : Ar} (hok : ArOk room A) (id : Int) (hid : id < 9223372036854775808) (w : World) (h : (arR g r sv room A).ok w) :
    Fun Try.prog 74 [.pointer (some ⟨g, 0, none⟩), .int .i64 id] w fun v w' => ∃ B c, v = .slice B (reachL A id).length c ∧ NewR w w' (own 3 1 (.slice B (reachL A id).length c) (reachL A id).length (ints (reachL A id))) := by
  refine fun_of_W (N := 36) Try.func74 ent74 rfl rfl rfl (by simp) ?_
  have h' := h
  obtain ⟨N, B, c, l, rfl, rfl, hl, hnd, H⟩ := arR_open h'
  clear h'
  have hN2 : N.length ≤ 20000 := by have h3 := hok.len; have h4 := hok.room; rw [ars_length] at h3; omega
  refine bin_eql59 ?_
  refine cond_no rfl ?_
  refine fieldAddr_by (fa199_1 _) ?_
  refine ld_blk (H.ro 0 rfl) agg197 rfl ?_
  refine len_sl Try.underlying197 ?_
  refine H.make T29 N.length rfl rfl (by omega) (by omega) ?_
  clear H
  intro g5 w5 H
  rw [madeBool, show List.replicate N.length (Value.bool false) = bls (List.replicate N.length false) from List.map_replicate.symm] at H
  have hlen : (ars N).length = N.length := ars_length N
  have hsep : ∀ x, (arR g r (.slice B N.length c) room (ars N)).foot x → x ≠ g5 := by
    rintro x hx rfl
    obtain ⟨s, hs, hx'⟩ := arR_foot' (N := N) (l := l) hx
    exact H.rdis s hs _ (.head _) x hx' rfl
  have hc := c165 hok hsep 26 id (List.replicate (ars N).length false) w5 (by have := lvlA_ge (ars N) id; omega) hid (arR_same h H.keeps) (by rw [metR, hlen]; exact H.get 0 rfl)
  rw [hlen] at hc
  refine call_fn hc ?_
  rintro _ w6 ⟨rfl, ht⟩
  replace H := H.turnBy 0 rfl ht
  have hml : (markA (ars N) 26 id (List.replicate N.length false)).length = N.length := by rw [markA_length, List.length_replicate]
  have hres : reachL (ars N) id = reachTo (markA (ars N) 26 id (List.replicate N.length false)) N.length := by rw [reachL, hlen]
  rw [hres]
  generalize markA (ars N) 26 id (List.replicate N.length false) = met at H hml ⊢
  clear hc ht hres
  have H : Hp w (fun _ => False) w6 [own 3 1 (.slice none 0 0) 0 [], metR g5 N.length met] _ := H.ownNil 3 1
  refine len_sl Try.underlying29 ?_
  refine loop_rule (γ := Nat × Option Addr × Nat) _ rfl (fun (i, B, c) => [(23, .int .i64 (i : Int)), (6, .slice B (reachTo met i).length c)])
    (fun (i, B, c) w' => i ≤ N.length ∧ Hp w (fun _ => False) w' [own 3 1 (.slice B (reachTo met i).length c) (reachTo met i).length (ints (reachTo met i)), metR g5 N.length met] []) (fun (i, _, _) => N.length - i) (0, none, 0) ⟨rfl, rfl, trivial⟩ ⟨Nat.zero_le _, H.weakenRO (by simp)⟩ ?_
  clear H
  rintro ⟨i, B2, c2⟩ u w8 ⟨hi, H⟩
  have hle := reachTo_le met i
  have hsu := reachTo_succ met i
  refine cond_dec (fun h1 => ?_) (fun h1 => ?_)
  · refine idxAddr_sl Try.underlying29 (s := 1) (by kernel_rfl) _ rfl (by first | omega | decide | (simp only [IntKind.wrap_i64]; omega) | (rw [bls, List.length_map]; omega) | (rw [bytesV_length]; omega) | (rw [ints_length]; omega) | (simp; done) | (simp; omega)) (o' := _) (by rw [Nat.zero_add, Nat.mul_one]) ?_
    refine H.loadOwn 1 rfl agg4 (bls_getD (by omega)) ?_
    refine cond_split (fun h4 => ?_) (fun h4 => ?_)
    · refine H.buildOne T32 rfl ?_
      clear H
      intro g7 w7 H
      refine H.appendOne 0 T32 rfl rfl (by omega) (by omega) ?_
      clear H
      intro A9 k9 w9 H
      rw [if_pos (show mb met i = true from h4)] at hsu
      have hl2 : (reachTo met (i + 1)).length = (reachTo met i).length + 1 := by rw [hsu]; simp
      rw [add2 (by omega), ints_snoc, ← hsu, ← hl2] at H
      exact ⟨(i + 1, A9, k9), by show N.length - (i + 1) < N.length - i; omega, ⟨up (by omega), by rw [hl2]; rfl, trivial⟩, by show i + 1 ≤ _; omega, H⟩
    · rw [if_neg (by unfold mb; rw [h4]; decide)] at hsu
      rw [← hsu] at H
      exact ⟨(i + 1, B2, c2), by show N.length - (i + 1) < N.length - i; omega, ⟨up (by omega), by rw [hsu]; rfl, trivial⟩, by show i + 1 ≤ _; omega, H⟩
  · obtain rfl : i = N.length := by omega
    exact ⟨B2, c2, rfl, H.out⟩

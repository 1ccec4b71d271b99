/-
  The walks of RefsCheck and RefsDepth: they return true. Conditions: the formula lies as said; its list's bytes are below make's bound.
-/
import Derived.Test.YtifmfkofadhieaaRLives
import Derived.Test.YtifmfkofadhieaaQb
namespace Go.Proofs.Ytifmfkofadhieaa
open Go.ChangeShapes Go.WideShapes Go.ChangeAt Go.RowKit Go.Deep

theorem cop_lies {w : World} {B g n c : Nat} {L : List Nd} (h : OL KN w B (.slice (some ⟨g, 0, none⟩) n c) L) : Lies KN w (some ⟨g, 0, none⟩) L := by
  obtain ⟨_, _, hv, _, _, hLL, _⟩ := h.see
  injection hv with hv _ _
  rw [hv]
  exact hLL

set_option maxHeartbeats 3200000 in
set_option maxRecDepth 100000 in
theorem refsCheck_walk (Ns : List Nd) (A : Option Addr) (cap : Nat) (w : World) (hA : Lies KN w A Ns) (hN : ∀ n, n ∈ Ns → rngN n) (hb : (Ns.length + 2) * 136 ≤ 281474976710656) :
    Calls Try.prog 3 #[.agg #[.slice A Ns.length cap]] w fun e w' => e = .returned (.bool true) ∧ Below w.heap.size w w' := by
  have HN := Lib.hid hN
  clear hN
  go_enter Try.func3, Try.ntmps3
  go_wp2_with fail
  refine (copied_any Ns A cap _ (hA.below (bel_alloc (bel_refl w) _)) hb).mono ?_
  rintro e w1 ⟨g, rfl, hO, hb1⟩
  have k1 := (Blk.new w rfl 24 #[.slice A Ns.length cap]).below hb1
  have hw1 := bel_call (bel_alloc (bel_refl w) _) hb1
  have hLL := cop_lies hO
  have HL1 := hA.below hw1
  clear hb1 hO hA
  go_wp2_with fail
  have HL2 := HL1.below (bel_alloc (bel_refl w1) (.cells #[.slice (some ⟨g, 0, none⟩) Ns.length (Ns.length + 2)] 24))
  have HLS := hLL.below (bel_alloc (bel_refl w1) (.cells #[.slice (some ⟨g, 0, none⟩) Ns.length (Ns.length + 2)] 24))
  have HLO := HLS.take Ns.length
  rw [List.take_left] at HLO
  have k1' := k1.alloc (.cells #[.slice (some ⟨g, 0, none⟩) Ns.length (Ns.length + 2)] 24)
  have k3 := Blk.new w1 rfl 24 #[.slice (some ⟨g, 0, none⟩) Ns.length (Ns.length + 2)]
  have hw3 := bel_alloc hw1 (.cells #[.slice (some ⟨g, 0, none⟩) Ns.length (Ns.length + 2)] 24)
  generalize hwz : w1.alloc (.cells #[.slice (some ⟨g, 0, none⟩) Ns.length (Ns.length + 2)] 24) = wz at HL2 HLS HLO k1' k3 hw3 ⊢
  have g1 := k1'.gr
  have g3 := k3.gr
  have hl : Ns.length ≤ 9223372036854775807 := by omega
  obtain ⟨ck, hck⟩ : ∃ ck, ck = chkI (depthN Ns) := ⟨_, rfl⟩
  have c1 := fun W hW => pcheck_any Ns (some ⟨g, 0, none⟩) (Ns.length + 2) W hW HN.out
  have c2 := fun W hW => rcheck_any Ns A cap W hW HN.out
  have c3 := fun W hW hW' => rsame_any Ns Ns (some ⟨g, 0, none⟩) A (Ns.length + 2) cap W hW hW' hl
  rw [← hck] at c1 c2
  rw [same_self] at c3
  have C1 := Lib.hid c1
  have C2 := Lib.hid c2
  have C3 := Lib.hid c3
  clear c1 c2 c3 hck hwz
  refine wp_region_quiet_below (by kernel_rfl) (by kernel_rfl) ?_
  repeat (any_goals (first | go_big_quiet_step ((first | (go_at_call 11; exact Calls.regrown_of (C1.out _ (HLO.below (below_regrown _ _ _)))) | (go_at_call 12; exact Calls.regrown_of (C2.out _ (HL2.below (below_regrown _ _ _)))) | (go_at_call 13; exact Calls.regrown_of (C3.out _ (HLO.below (below_regrown _ _ _)) (HL2.below (below_regrown _ _ _)))) | (go_at_call 14; exact Calls.regrown_of (spared_any Ns g _ (HLS.below (below_regrown _ _ _)) hb)) | (go_at_call 15; exact Calls.regrown_of (lives_any _)))) | fail))
  refine wpQuiet_nil ?_
  intro w5 hw'
  have hb5 := class_below hw'
  clear hw'
  go_wp2_with fail
  go_ret
  exact ⟨rfl, bel_call hw3 hb5⟩

set_option maxHeartbeats 3200000 in
set_option maxRecDepth 100000 in
theorem refsDepth_walk (Ns : List Nd) (A : Option Addr) (cap : Nat) (w : World) (hA : Lies KN w A Ns) (hN : ∀ n, n ∈ Ns → rngN n) (hb : (Ns.length + 2) * 136 ≤ 281474976710656) :
    Calls Try.prog 4 #[.agg #[.slice A Ns.length cap]] w fun e w' => e = .returned (.bool true) ∧ Below w.heap.size w w' := by
  have HN := Lib.hid hN
  clear hN
  go_enter Try.func4, Try.ntmps4
  go_wp2_with fail
  refine (copied_any Ns A cap _ (hA.below (bel_alloc (bel_refl w) _)) hb).mono ?_
  rintro e w1 ⟨g, rfl, hO, hb1⟩
  have k1 := (Blk.new w rfl 24 #[.slice A Ns.length cap]).below hb1
  have hw1 := bel_call (bel_alloc (bel_refl w) _) hb1
  have hLL := cop_lies hO
  have HL1 := hA.below hw1
  clear hb1 hO hA
  go_wp2_with fail
  have HL2 := HL1.below (bel_alloc (bel_refl w1) (.cells #[.slice (some ⟨g, 0, none⟩) Ns.length (Ns.length + 2)] 24))
  have HLS := hLL.below (bel_alloc (bel_refl w1) (.cells #[.slice (some ⟨g, 0, none⟩) Ns.length (Ns.length + 2)] 24))
  have HLO := HLS.take Ns.length
  rw [List.take_left] at HLO
  have k1' := k1.alloc (.cells #[.slice (some ⟨g, 0, none⟩) Ns.length (Ns.length + 2)] 24)
  have k3 := Blk.new w1 rfl 24 #[.slice (some ⟨g, 0, none⟩) Ns.length (Ns.length + 2)]
  have hw3 := bel_alloc hw1 (.cells #[.slice (some ⟨g, 0, none⟩) Ns.length (Ns.length + 2)] 24)
  generalize hwz : w1.alloc (.cells #[.slice (some ⟨g, 0, none⟩) Ns.length (Ns.length + 2)] 24) = wz at HL2 HLS HLO k1' k3 hw3 ⊢
  have g1 := k1'.gr
  have g3 := k3.gr
  have hl : Ns.length ≤ 9223372036854775807 := by omega
  obtain ⟨ck, hck⟩ : ∃ ck, ck = depI (depthN Ns) := ⟨_, rfl⟩
  have c1 := fun W hW => pdepth_any Ns (some ⟨g, 0, none⟩) (Ns.length + 2) W hW HN.out
  have c2 := fun W hW => rdepth_any Ns A cap W hW HN.out
  have c3 := fun W hW hW' => rsame_any Ns Ns (some ⟨g, 0, none⟩) A (Ns.length + 2) cap W hW hW' hl
  rw [← hck] at c1 c2
  rw [same_self] at c3
  have C1 := Lib.hid c1
  have C2 := Lib.hid c2
  have C3 := Lib.hid c3
  clear c1 c2 c3 hck hwz
  refine wp_region_quiet_below (by kernel_rfl) (by kernel_rfl) ?_
  repeat (any_goals (first | go_big_quiet_step ((first | (go_at_call 16; exact Calls.regrown_of (C1.out _ (HLO.below (below_regrown _ _ _)))) | (go_at_call 17; exact Calls.regrown_of (C2.out _ (HL2.below (below_regrown _ _ _)))) | (go_at_call 13; exact Calls.regrown_of (C3.out _ (HLO.below (below_regrown _ _ _)) (HL2.below (below_regrown _ _ _)))) | (go_at_call 14; exact Calls.regrown_of (spared_any Ns g _ (HLS.below (below_regrown _ _ _)) hb)) | (go_at_call 15; exact Calls.regrown_of (lives_any _)))) | fail))
  refine wpQuiet_nil ?_
  intro w5 hw'
  have hb5 := class_below hw'
  clear hw'
  go_wp2_with fail
  go_ret
  exact ⟨rfl, bel_call hw3 hb5⟩
end Go.Proofs.Ytifmfkofadhieaa

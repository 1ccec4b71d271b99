/-
  Contract of the method Open of a Views. Conditions: those of each theorem.
-/
import Derived.Test.YtocglcngfgpfnaaView3
import Derived.Deep.LoopGhost
namespace Go.Proofs.Ytocglcngfgpfnaa
open Go.ChangeShapes Go.WideShapes Go.ChangeAt Go.RowKit Go.Deep

theorem vopen_addr (b : Nat) (r1 c1 r2 c2 : Int) (w : World) (hm : mayB r1 c1 = false ∨ mayB r2 c2 = false) :
    Calls Try.prog 8 #[.pointer (some ⟨b, 0, none⟩), .agg #[.int .i64 r1, .int .i64 c1], .agg #[.int .i64 r2, .int .i64 c2]] w fun e w' => e = .returned (.tuple #[.int .i64 0, .int .i64 3]) ∧ Below w.heap.size w w' := by
  cases h1 : mayB r1 c1 with
  | false =>
    go_enter Try.func8, Try.ntmps8
    go_wp2_with fail
    refine (may_any _ _ _).mono ?_
    rintro e w1 ⟨rfl, hb1⟩
    go_wp2_with fail
    go_ret2
    exact ⟨rfl, bel_call (bel_alloc (bel_alloc (bel_refl w) _) _) hb1⟩
  | true =>
    have h2 : mayB r2 c2 = false := by
      rcases hm with h | h
      · rw [h1] at h; cases h
      · exact h
    go_enter Try.func8, Try.ntmps8
    go_wp2_with fail
    refine (may_any _ _ _).mono ?_
    rintro e w1 ⟨rfl, hb1⟩
    have k2 := ((Blk.new (w.alloc _) (g := w.heap.size + 1) (by simp) _ _)).below hb1
    have rd2 := k2.rd
    go_wp2_with fail
    refine (may_any _ _ _).mono ?_
    rintro e w2 ⟨rfl, hb2⟩
    go_wp2_with fail
    go_ret2
    exact ⟨rfl, bel_call (bel_call (bel_alloc (bel_alloc (bel_refl w) _) _) hb1) hb2⟩

set_option maxHeartbeats 1600000 in
theorem vopen_yes (b : Nat) (most cnt : Int) (s : Nat → Vw) (r1 c1 r2 c2 : Int) (w : World) (hR : VIs w b most cnt s) (hm : most ≤ 16) (hc : 0 ≤ cnt ∧ cnt ≤ 16) (h1 : mayB r1 c1 = true) (h2 : mayB r2 c2 = true)
    (n : Nat) (hn : (n : Int) < most) (hno : isOpen most s ((n : Int) + 1) = false) (hlow : ∀ j : Nat, j < n → isOpen most s ((j : Int) + 1) = true) :
    Calls Try.prog 8 #[.pointer (some ⟨b, 0, none⟩), .agg #[.int .i64 r1, .int .i64 c1], .agg #[.int .i64 r2, .int .i64 c2]] w fun e w' => e = .returned (.tuple #[.int .i64 (n + 1), .int .i64 0]) ∧
      VIs w' b most (cnt + 1) (upd s (n + 1) ⟨min r1 r2, min c1 c2, max r1 r2 - min r1 r2 + 1, max c1 c2 - min c1 c2 + 1⟩) ∧ w.grownBy w' (some b) := by
  have HL : Hid (∀ j : Nat, j < n → isOpen most s ((j : Int) + 1) = true) := hlow
  clear hlow
  go_enter Try.func8, Try.ntmps8
  go_wp2_with fail
  refine (may_any _ _ _).mono ?_
  rintro e w1 ⟨rfl, hb1⟩
  have k1 := (((Blk.new w rfl _ _).alloc _)).below hb1
  have k2 := ((Blk.new (w.alloc _) (g := w.heap.size + 1) (by simp) _ _)).below hb1
  have rd1 := k1.rd
  have rd2 := k2.rd
  go_wp2_with fail
  refine (may_any _ _ _).mono ?_
  rintro e w2 ⟨rfl, hb2⟩
  replace k1 := k1.below hb2
  replace k2 := k2.below hb2
  replace rd1 := k1.rd
  replace rd2 := k2.rd
  go_wp2_with fail
  refine (span_yes _ _ _ _ _ h1 h2).mono ?_
  rintro e w3 ⟨rfl, hb3⟩
  have hR3 := row_below (row_below (row_below ((hR.alloc _).alloc _) hb1) hb2) hb3
  have hg3 : w.grownBy w3 (some b) := grown_of_below (bel_call (bel_call (bel_call (bel_alloc (bel_alloc (bel_refl w) _) _) hb1) hb2) hb3) _
  have e0 : w3.cell? ⟨b, 0, none⟩ = some (.int .i64 most) := hR3.cell (by omega)
  have hlt3 := hR3.lt
  go_wp2_with fail
  have hR4 := hR3.alloc (.cells #[.int .i64 (min r1 r2), .int .i64 (min c1 c2), .int .i64 (max r1 r2), .int .i64 (max c1 c2)] 34)
  have hg4 := grown_alloc hg3 (.cells #[.int .i64 (min r1 r2), .int .i64 (min c1 c2), .int .i64 (max r1 r2), .int .i64 (max c1 c2)] 34)
  have k4 := Blk.new w3 rfl 34 #[.int .i64 (min r1 r2), .int .i64 (min c1 c2), .int .i64 (max r1 r2), .int .i64 (max c1 c2)]
  have hs3 := hg3.size
  go_loop [25] (fun i => ∃ k : Nat, k ≤ n ∧ i = .int .i64 k) (fun i => n - (intOf i).toNat)
  case atStart => exact ⟨0, Nat.zero_le _, rfl⟩
  case round =>
    obtain ⟨k, hk, rfl⟩ := hrel
    have hlt : (k : Int) < most := by omega
    by_cases hkn : k < n
    · have hop := HL.out k hkn
      go_wp2_with fail
      refine (open_yes b most cnt s _ _ hR4 hm hop).mono ?_
      rintro e w5 ⟨rfl, rfl⟩
      go_wp2_with fail
      go_round
      case rel => exact ⟨k + 1, by omega, by go_num⟩
      case measure => simp [intOf]; omega
    · obtain rfl : k = n := by omega
      clear hkn
      have b1 := mayB_true h1
      have b2 := mayB_true h2
      have hne : ¬ b = w3.heap.size := by omega
      have hne2 : ¬ w3.heap.size = b := by omega
      generalize hW : w3.alloc _ = w4 at hR4 hg4 k4 ⊢
      clear hW
      have rd4 := k4.rd
      have ec0 : w4.cell? ⟨b, 2 + (k + 1) * 4, none⟩ = some _ := hR4.cell (by omega)
      have ec1 : w4.cell? ⟨b, 2 + (k + 1) * 4 + 1, none⟩ = some _ := hR4.cell (by omega)
      have ec2 : w4.cell? ⟨b, 2 + (k + 1) * 4 + 2, none⟩ = some _ := hR4.cell (by omega)
      have ec3 : w4.cell? ⟨b, 2 + (k + 1) * 4 + 3, none⟩ = some _ := hR4.cell (by omega)
      have ec : w4.cell? ⟨b, 1, none⟩ = some (.int .i64 cnt) := hR4.cell (by omega)
      have ef := hR4.frozen
      go_wp2_with fail
      refine (open_no b most cnt s _ _ hR4 hm hno).mono ?_
      rintro e w5 ⟨rfl, rfl⟩
      go_wp2_with fail
      go_big_region
      all_goals
        go_wp2_with fail
        go_ret2
        refine ⟨by simp, ?_, ?_⟩
        · exact (row_cnt (row_whole hR4 _ _ _ _ _) _).drew
        · exact grown_drew (grown_set (grown_set (grown_set (grown_set (grown_set hg4 (.inl rfl) _) (.inl rfl) _) (.inl rfl) _) (.inl rfl) _) (.inl rfl) _)

set_option maxHeartbeats 1600000 in
theorem vopen_full (b : Nat) (most cnt : Int) (s : Nat → Vw) (r1 c1 r2 c2 : Int) (w : World) (hR : VIs w b most cnt s) (hm : most ≤ 16) (h1 : mayB r1 c1 = true) (h2 : mayB r2 c2 = true)
    (hlow : ∀ j : Nat, (j : Int) < most → isOpen most s ((j : Int) + 1) = true) (h0 : 0 ≤ most) :
    Calls Try.prog 8 #[.pointer (some ⟨b, 0, none⟩), .agg #[.int .i64 r1, .int .i64 c1], .agg #[.int .i64 r2, .int .i64 c2]] w fun e w' => e = .returned (.tuple #[.int .i64 0, .int .i64 5]) ∧ Below w.heap.size w w' := by
  have HL : Hid (∀ j : Nat, (j : Int) < most → isOpen most s ((j : Int) + 1) = true) := hlow
  clear hlow
  go_enter Try.func8, Try.ntmps8
  go_wp2_with fail
  refine (may_any _ _ _).mono ?_
  rintro e w1 ⟨rfl, hb1⟩
  have k1 := (((Blk.new w rfl _ _).alloc _)).below hb1
  have k2 := ((Blk.new (w.alloc _) (g := w.heap.size + 1) (by simp) _ _)).below hb1
  have rd1 := k1.rd
  have rd2 := k2.rd
  go_wp2_with fail
  refine (may_any _ _ _).mono ?_
  rintro e w2 ⟨rfl, hb2⟩
  replace k1 := k1.below hb2
  replace k2 := k2.below hb2
  replace rd1 := k1.rd
  replace rd2 := k2.rd
  go_wp2_with fail
  refine (span_yes _ _ _ _ _ h1 h2).mono ?_
  rintro e w3 ⟨rfl, hb3⟩
  have hR3 := row_below (row_below (row_below ((hR.alloc _).alloc _) hb1) hb2) hb3
  have hg3 := bel_call (bel_call (bel_call (bel_alloc (bel_alloc (bel_refl w) _) _) hb1) hb2) hb3
  have e0 : w3.cell? ⟨b, 0, none⟩ = some (.int .i64 most) := hR3.cell (by omega)
  have hlt3 := hR3.lt
  go_wp2_with fail
  have hR4 := hR3.alloc (.cells #[.int .i64 (min r1 r2), .int .i64 (min c1 c2), .int .i64 (max r1 r2), .int .i64 (max c1 c2)] 34)
  go_loop [25] (fun i => ∃ k : Nat, (k : Int) ≤ most ∧ i = .int .i64 k) (fun i => most.toNat - (intOf i).toNat)
  case atStart => exact ⟨0, h0, rfl⟩
  case round =>
    obtain ⟨k, hk, rfl⟩ := hrel
    by_cases hlt : (k : Int) < most
    · have hop := HL.out k hlt
      go_wp2_with fail
      refine (open_yes b most cnt s _ _ hR4 hm hop).mono ?_
      rintro e w5 ⟨rfl, rfl⟩
      go_wp2_with fail
      go_round
      case rel => exact ⟨k + 1, by omega, by go_num⟩
      case measure => simp [intOf]; omega
    · go_wp2_with fail
      go_ret2
      exact ⟨rfl, bel_alloc hg3 _⟩
end Go.Proofs.Ytocglcngfgpfnaa

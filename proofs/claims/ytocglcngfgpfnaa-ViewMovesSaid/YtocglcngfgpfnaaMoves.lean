/-
  The walk of oriellaw22.ViewMoves: it returns true, whatever the three cells. Conditions: the cells' numbers are 64-bit integers.
-/
import Derived.Test.YtocglcngfgpfnaaView5
namespace Go.Proofs.Ytocglcngfgpfnaa
open Go.ChangeShapes Go.WideShapes Go.ChangeAt Go.RowKit Go.Deep

theorem mv_open (b : Nat) (r1 c1 r2 c2 : Int) (w : World) (hR : VIs w b 1 0 F0) (h1 : mayB r1 c1 = true) (h2 : mayB r2 c2 = true) :
    Calls Try.prog 8 #[.pointer (some ⟨b, 0, none⟩), .agg #[.int .i64 r1, .int .i64 c1], .agg #[.int .i64 r2, .int .i64 c2]] w fun e w' =>
      e = .returned (.tuple #[.int .i64 1, .int .i64 0]) ∧ ∃ T L R C : Int, (1 ≤ T ∧ 1 ≤ L ∧ 0 ≤ R ∧ 0 ≤ C ∧ T + R ≤ 4096 ∧ L + C ≤ 256 ∧ T ≤ r1 ∧ T ≤ r2 ∧ r1 ≤ T + R ∧ r2 ≤ T + R ∧ L ≤ c1 ∧ L ≤ c2 ∧ c1 ≤ L + C ∧ c2 ≤ L + C) ∧
        VIs w' b 1 1 (upd F0 1 ⟨T, L, R + 1, C + 1⟩) ∧ w.grownBy w' (some b) := by
  have b1 := mayB_true h1
  have b2 := mayB_true h2
  refine (vopen_yes b 1 0 F0 r1 c1 r2 c2 w hR (by omega) (by omega) h1 h2 0 (by omega) (by decide) (by omega)).mono ?_
  rintro e w' ⟨rfl, hR', hg⟩
  exact ⟨rfl, min r1 r2, min c1 c2, max r1 r2 - min r1 r2, max c1 c2 - min c1 c2, by omega, hR', hg⟩

theorem mv_rect (b : Nat) (T L R C : Int) (w : World) (hR : VIs w b 1 1 (upd F0 1 ⟨T, L, R + 1, C + 1⟩)) (h1 : 1 ≤ T ∧ T ≤ 4096 ∧ 1 ≤ L ∧ L ≤ 256 ∧ 0 ≤ R ∧ R < 4096 ∧ 0 ≤ C ∧ C < 256) :
    Calls Try.prog 11 #[.pointer (some ⟨b, 0, none⟩), .int .i64 1] w fun e w' =>
      ∃ B D : Int, e = .returned (.tuple #[.agg #[.int .i64 T, .int .i64 L, .int .i64 B, .int .i64 D], .int .i64 0]) ∧ (B ≤ 4096 ∧ B ≤ T + R ∧ (B = 4096 ∨ B = T + R) ∧ D ≤ 256 ∧ D ≤ L + C ∧ (D = 256 ∨ D = L + C)) ∧ Below w.heap.size w w' := by
  refine (rect_yes b 1 1 _ 1 w hR (by omega) ?_ ?_ ?_ ?_ ?_ ?_).mono ?_
  · simp [isOpen, upd]; omega
  · show mayB T L = true
    simp [mayB]; omega
  · show 1 ≤ R + 1
    omega
  · show 1 ≤ C + 1
    omega
  · show R + 1 ≤ 4096
    omega
  · show C + 1 ≤ 256
    omega
  · rintro e w' ⟨rfl, hb⟩
    refine ⟨min 4096 (T + (R + 1) - 1), min 256 (L + (C + 1) - 1), rfl, by omega, hb⟩

theorem mv_move (b : Nat) (T L R C r c : Int) (w : World) (hR : VIs w b 1 1 (upd F0 1 ⟨T, L, R + 1, C + 1⟩)) (h0 : 0 ≤ R) (hmay : mayB r c = true) :
    Calls Try.prog 13 #[.pointer (some ⟨b, 0, none⟩), .int .i64 1, .agg #[.int .i64 r, .int .i64 c]] w fun e w' => e = .returned (.int .i64 0) ∧
      VIs w' b 1 1 (upd F0 1 ⟨r, c, R + 1, C + 1⟩) ∧ w.grownBy w' (some b) := by
  refine (move_yes b 1 1 _ 1 r c w hR (by omega) hmay ?_).mono ?_
  · simp [isOpen, upd]; omega
  · rintro e w' ⟨rfl, hR', hg⟩
    refine ⟨rfl, ?_, hg⟩
    have e1 : (1 : Int).toNat = 1 := rfl
    rw [e1, upd_upd, upd_same] at hR'
    exact hR'

set_option maxHeartbeats 1600000 in
set_option maxRecDepth 100000 in
theorem moves_walk (r1 c1 r2 c2 r3 c3 : Int) (w : World) (z3 : -9223372036854775808 ≤ r3 ∧ r3 ≤ 9223372036854775807) (z4 : -9223372036854775808 ≤ c3 ∧ c3 ≤ 9223372036854775807) :
    Calls Try.prog 3 #[.agg #[.int .i64 r1, .int .i64 c1], .agg #[.int .i64 r2, .int .i64 c2], .agg #[.int .i64 r3, .int .i64 c3]] w fun e w' => e = .returned (.bool true) ∧ Below w.heap.size w w' := by
  go_enter Try.func3, Try.ntmps3
  go_wp2_with fail
  refine (new_ex 1 _ (by omega) (by omega)).mono ?_
  rintro e w1 ⟨vb, hvb, rfl, hR1, hb1⟩
  simp only [World.size_alloc] at hvb
  have k1 := (((Blk.new w rfl _ _).alloc _).alloc _).below hb1
  have k2 := (((Blk.new (w.alloc _) (g := w.heap.size + 1) (by simp) _ _)).alloc _).below hb1
  have k3 := ((Blk.new ((w.alloc _).alloc _) (g := w.heap.size + 1 + 1) (by simp) _ _)).below hb1
  have hw := bel_call (bel_alloc (bel_alloc (bel_alloc (bel_refl w) _) _) _) hb1
  clear hb1
  go_wp2_with fail
  refine (known_any _).mono ?_
  rintro e w2 ⟨rfl, hb2⟩
  replace k1 := k1.below hb2
  replace k2 := k2.below hb2
  replace k3 := k3.below hb2
  replace hR1 := row_below hR1 hb2
  replace hw := bel_call hw hb2
  clear hb2
  replace rd1 := k1.rd
  replace lt1 := k1.lt
  replace rd2 := k2.rd
  replace lt2 := k2.lt
  replace rd3 := k3.rd
  replace lt3 := k3.lt
  cases h1 : mayB r1 c1 with
  | false =>
    go_wp2_with fail
    refine (vopen_addr _ _ _ _ _ _ (.inl h1)).mono ?_
    rintro e w3 ⟨rfl, hb3⟩
    replace k1 := k1.below hb3
    replace k2 := k2.below hb3
    replace hR1 := row_below hR1 hb3
    replace hw := bel_call hw hb3
    clear hb3
    replace rd1 := k1.rd
    replace lt1 := k1.lt
    replace rd2 := k2.rd
    replace lt2 := k2.lt
    go_wp2_with fail
    refine (rmay_any _ _ _).mono ?_
    rintro e w4 ⟨rfl, hb4⟩
    replace hR1 := row_below hR1 hb4
    replace hw := bel_call hw hb4
    clear hb4
    go_wp2_with fail
    refine (count_any _ _ _ _ _ hR1).mono ?_
    rintro e w5 ⟨rfl, rfl⟩
    go_wp2_with fail
    go_ret
    exact ⟨rfl, hw⟩
  | true =>
    cases h2 : mayB r2 c2 with
    | false =>
      go_wp2_with fail
      refine (vopen_addr _ _ _ _ _ _ (.inr h2)).mono ?_
      rintro e w3 ⟨rfl, hb3⟩
      replace k1 := k1.below hb3
      replace k2 := k2.below hb3
      replace hR1 := row_below hR1 hb3
      replace hw := bel_call hw hb3
      clear hb3
      replace rd1 := k1.rd
      replace lt1 := k1.lt
      replace rd2 := k2.rd
      replace lt2 := k2.lt
      go_wp2_with fail
      refine (rmay_any _ _ _).mono ?_
      rintro e w4 ⟨rfl, hb4⟩
      replace k2 := k2.below hb4
      replace hR1 := row_below hR1 hb4
      replace hw := bel_call hw hb4
      clear hb4
      replace rd2 := k2.rd
      replace lt2 := k2.lt
      go_wp2_with fail
      refine (rmay_any _ _ _).mono ?_
      rintro e w5 ⟨rfl, hb5⟩
      replace hR1 := row_below hR1 hb5
      replace hw := bel_call hw hb5
      clear hb5
      go_wp2_with fail
      refine (count_any _ _ _ _ _ hR1).mono ?_
      rintro e w6 ⟨rfl, rfl⟩
      go_wp2_with fail
      go_ret
      exact ⟨rfl, hw⟩
    | true =>
      go_wp2_with fail
      refine (mv_open vb _ _ _ _ _ hR1 h1 h2).mono ?_
      rintro e w3 ⟨rfl, T, L, R, C, hT, hR3, hg3⟩
      clear hR1
      replace k1 := k1.grown hg3 (by omega)
      replace k2 := k2.grown hg3 (by omega)
      replace k3 := k3.grown hg3 (by omega)
      replace hw := hw.trans (below_of_grown hg3 hw.size (by omega))
      clear hg3
      replace rd1 := k1.rd
      replace lt1 := k1.lt
      replace rd2 := k2.rd
      replace lt2 := k2.lt
      replace rd3 := k3.rd
      replace lt3 := k3.lt
      go_wp2_with fail
      refine (rmay_any _ _ _).mono ?_
      rintro e w4 ⟨rfl, hb4⟩
      replace k1 := k1.below hb4
      replace k2 := k2.below hb4
      replace k3 := k3.below hb4
      replace hR3 := row_below hR3 hb4
      replace hw := bel_call hw hb4
      clear hb4
      replace rd1 := k1.rd
      replace lt1 := k1.lt
      replace rd2 := k2.rd
      replace lt2 := k2.lt
      replace rd3 := k3.rd
      replace lt3 := k3.lt
      go_wp2_with fail
      refine (rmay_any _ _ _).mono ?_
      rintro e w5 ⟨rfl, hb5⟩
      replace k1 := k1.below hb5
      replace k2 := k2.below hb5
      replace k3 := k3.below hb5
      replace hR3 := row_below hR3 hb5
      replace hw := bel_call hw hb5
      clear hb5
      replace rd1 := k1.rd
      replace lt1 := k1.lt
      replace rd2 := k2.rd
      replace lt2 := k2.lt
      replace rd3 := k3.rd
      replace lt3 := k3.lt
      go_wp2_with fail
      refine (mv_rect vb T L R C _ hR3 (by omega)).mono ?_
      rintro e w6 ⟨B, D, rfl, hBD, hb6⟩
      obtain rfl : B = T + R := by omega
      obtain rfl : D = L + C := by omega
      clear hBD
      replace k1 := k1.below hb6
      replace k2 := k2.below hb6
      replace k3 := k3.below hb6
      replace hR3 := row_below hR3 hb6
      replace hw := bel_call hw hb6
      clear hb6
      replace rd1 := k1.rd
      replace lt1 := k1.lt
      replace rd2 := k2.rd
      replace lt2 := k2.lt
      replace rd3 := k3.rd
      replace lt3 := k3.lt
      have lt0 := hR3.lt
      go_wp2_with fail
      refine (in_any _ _ _ _ _ _ _).mono ?_
      rintro e w7 ⟨rfl, hb7⟩
      have k4 := (Blk.new w6 rfl _ _).below hb7
      have q1 : decide (T ≤ r1 ∧ r1 ≤ T + R ∧ L ≤ c1 ∧ c1 ≤ L + C) = true := by simp; omega
      have q2 : decide (T ≤ r2 ∧ r2 ≤ T + R ∧ L ≤ c2 ∧ c2 ≤ L + C) = true := by simp; omega
      replace k1 := (k1.alloc _).below hb7
      replace k2 := (k2.alloc _).below hb7
      replace k3 := (k3.alloc _).below hb7
      replace hR3 := row_below (hR3.alloc _) hb7
      replace hw := bel_call (bel_alloc hw _) hb7
      clear hb7
      replace rd1 := k1.rd
      replace lt1 := k1.lt
      replace rd2 := k2.rd
      replace lt2 := k2.lt
      replace rd3 := k3.rd
      replace lt3 := k3.lt
      replace rd4 := k4.rd
      replace lt4 := k4.lt
      go_wp2_with fail
      refine (in_any _ _ _ _ _ _ _).mono ?_
      rintro e w8 ⟨rfl, hb8⟩
      replace k1 := k1.below hb8
      replace k2 := k2.below hb8
      replace k3 := k3.below hb8
      replace k4 := k4.below hb8
      replace hR3 := row_below hR3 hb8
      replace hw := bel_call hw hb8
      clear hb8
      replace rd1 := k1.rd
      replace lt1 := k1.lt
      replace rd2 := k2.rd
      replace lt2 := k2.lt
      replace rd3 := k3.rd
      replace lt3 := k3.lt
      replace rd4 := k4.rd
      replace lt4 := k4.lt
      clear q1 q2
      cases h3 : mayB r3 c3 with
      | false =>
        go_wp2_with fail
        refine (move_addr _ _ _ _ _ h3).mono ?_
        rintro e w9 ⟨rfl, hb9⟩
        replace k3 := k3.below hb9
        replace k4 := k4.below hb9
        replace hR3 := row_below hR3 hb9
        replace hw := bel_call hw hb9
        clear hb9
        replace rd3 := k3.rd
        replace lt3 := k3.lt
        replace rd4 := k4.rd
        replace lt4 := k4.lt
        go_wp2_with fail
        refine (rmay_any _ _ _).mono ?_
        rintro e w10 ⟨rfl, hb10⟩
        replace k4 := k4.below hb10
        replace hR3 := row_below hR3 hb10
        replace hw := bel_call hw hb10
        clear hb10
        replace rd4 := k4.rd
        replace lt4 := k4.lt
        go_wp2_with fail
        refine (mv_rect vb T L R C _ hR3 (by omega)).mono ?_
        rintro e w11 ⟨B, D, rfl, hBD, hb11⟩
        obtain rfl : B = T + R := by omega
        obtain rfl : D = L + C := by omega
        clear hBD
        replace k4 := k4.below hb11
        replace hw := bel_call hw hb11
        clear hb11
        replace rd4 := k4.rd
        replace lt4 := k4.lt
        go_wp2_with fail
        go_ret
        exact ⟨rfl, bel_alloc hw _⟩
      | true =>
        have b3 := mayB_true h3
        go_wp2_with fail
        refine (mv_move vb T L R C r3 c3 _ hR3 (by omega) h3).mono ?_
        rintro e w9 ⟨rfl, hR4, hg9⟩
        clear hR3
        replace k3 := k3.grown hg9 (by omega)
        replace k4 := k4.grown hg9 (by omega)
        replace hw := hw.trans (below_of_grown hg9 hw.size (by omega))
        clear hg9
        replace rd3 := k3.rd
        replace lt3 := k3.lt
        replace rd4 := k4.rd
        replace lt4 := k4.lt
        go_wp2_with fail
        refine (rmay_any _ _ _).mono ?_
        rintro e w10 ⟨rfl, hb10⟩
        replace k3 := k3.below hb10
        replace k4 := k4.below hb10
        replace hR4 := row_below hR4 hb10
        replace hw := bel_call hw hb10
        clear hb10
        replace rd3 := k3.rd
        replace lt3 := k3.lt
        replace rd4 := k4.rd
        replace lt4 := k4.lt
        go_wp2_with fail
        refine (mv_rect vb r3 c3 R C _ hR4 (by omega)).mono ?_
        rintro e w11 ⟨B, D, rfl, hBD, hb11⟩
        replace k3 := k3.below hb11
        replace k4 := k4.below hb11
        replace hR4 := row_below hR4 hb11
        replace hw := bel_call hw hb11
        clear hb11
        replace rd3 := k3.rd
        replace lt3 := k3.lt
        replace rd4 := k4.rd
        replace lt4 := k4.lt
        have lt0' := hR4.lt
        have ne1 : ¬ w6.heap.size = w11.heap.size := by omega
        have ne2 : ¬ w11.heap.size = w6.heap.size := by omega
        have hw11 : w.heap.size ≤ w11.heap.size := hw.size
        go_wp2_with fail
        all_goals
          refine (mv_move vb r3 c3 R C T L _ (hR4.alloc _) (by omega) (by simp [mayB]; omega)).mono ?_
          rintro e w12 ⟨rfl, hR5, hg12⟩
          have k5 := (Blk.new w11 rfl _ _).grown hg12 (by omega)
          clear hR4 k3 rd3 lt3
          replace k4 := (k4.alloc _).grown hg12 (by omega)
          replace hw := (bel_alloc hw _).trans (below_of_grown hg12 (bel_alloc hw _).size (by omega))
          clear hg12
          replace rd4 := k4.rd
          replace lt4 := k4.lt
          replace rd5 := k5.rd
          replace lt5 := k5.lt
          replace fz5 := k5.fz
          go_wp2_with fail
          refine (mv_rect vb T L R C _ hR5 (by omega)).mono ?_
          rintro e w13 ⟨B, D, rfl, hBD, hb13⟩
          obtain rfl : B = T + R := by omega
          obtain rfl : D = L + C := by omega
          clear hBD
          replace k4 := k4.below hb13
          replace k5 := k5.below hb13
          replace hw := bel_call hw hb13
          clear hb13
          replace rd4 := k4.rd
          replace lt4 := k4.lt
          replace rd5 := k5.rd
          replace lt5 := k5.lt
          replace fz5 := k5.fz
          go_wp2_with fail
          go_ret
          exact ⟨rfl, bel_set (bel_set (bel_set (bel_set hw hw11 _) hw11 _) hw11 _) hw11 _⟩
end Go.Proofs.Ytocglcngfgpfnaa

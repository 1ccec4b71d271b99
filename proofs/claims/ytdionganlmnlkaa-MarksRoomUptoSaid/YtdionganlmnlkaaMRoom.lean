/-
  The walk of MarksRoom. Conditions: the deeds lie as said; they hold no more than the bound.
-/
import Derived.Test.YtdionganlmnlkaaMPlain
namespace Go.Proofs.Ytdionganlmnlkaa
open Go.ChangeShapes Go.WideShapes Go.ChangeAt Go.RowKit Go.Deep
attribute [local go_sem] Cls

set_option maxHeartbeats 12800000 in
set_option maxRecDepth 100000 in
theorem marksRoom_walk (A : Option Addr) (cap : Nat) (D : List DdV) (w : World) (hS : DeedsAt w A D) (htot : tot D ≤ 1048576) :
    Calls Try.prog 4 #[.slice A D.length cap] w fun e w' => e = .returned (.bool true) ∧ Below w.heap.size w w' := by
  have hDl := tot_len D
  go_enter Try.func4, Try.ntmps4
  go_wp2_with fail
  refine (begin_any _).mono ?_
  rintro e w1 ⟨bb, db, mb, sm, yb, rb, col, rfl, hS0, hlow0, hb1⟩
  have h0 := li_new hb1 hS0 hlow0
  have qb := hS0.top.rd
  have lb := hS0.top.lt
  clear hS0 hlow0 hb1
  go_wp2_with fail
  clear qb lb
  go_loopw [4] (fun s wr => ∃ (k : Nat) (col : Nat → Nat) (pk : Int) (f : Cl → Option Int) (Es : List Ed), k ≤ D.length ∧ s = .int .i64 k ∧ LI w wr bb db mb sm yb rb (tot (D.take k)) col pk f Es ∧ Hid (pk ≤ (runs Es : Int))) (fun s _ => D.length - (intOf s).toNat)
  case atStart => exact ⟨0, col, 0, _, [], Nat.zero_le _, rfl, h0, Lib.hid (Int.le_refl _)⟩
  case round =>
    clear h0
    obtain ⟨k, col, pk, f, Es, hk, rfl, h, HPK⟩ := hrel
    by_cases hkl : k < D.length
    · skip
      obtain ⟨d, hd⟩ : ∃ d, D[k]? = some d := ⟨_, List.getElem?_eq_getElem hkl⟩
      obtain ⟨b1, o1, hA1, hb1, ⟨z0, z1, z2, z3, z4⟩, hLi, hrcd, hkd⟩ := hS k d hd
      subst hA1
      have c0 := (h.bel.cell hb1).trans z0
      have c1 := (h.bel.cell hb1).trans z1
      have c2 := (h.bel.cell hb1).trans z2
      have c3 := (h.bel.cell hb1).trans z3
      have c4 := (h.bel.cell hb1).trans z4
      have htk := tot_take hd
      have htl := tot_le D (k + 1)
      have hT : tot (D.take k) + (d.L.length + 1) ≤ 1048576 := by omega
      have i0 : (0 : Int) ≤ (k : Int) := by omega
      have i1 : (k : Int) < (D.length : Int) := by omega
      have HTK := Lib.hid htk
      clear hd htk htl z1 z2 z3 z4
      go_wp2_with fail
      refine (li_does d.kd d.row d.col d.L d.A d.cap d.fm h hLi hrcd hkd hT).mono ?_
      rintro e w4 ⟨rfl, col4, pk9, f4, Es4, h4, _, hst⟩
      have HP4 := Lib.hid (room_step HPK.out hst)
      have hEl := h4.len
      have hE20 : Es4.length ≤ 1048576 := by omega
      rw [← HTK.out] at h4
      obtain ⟨Oy, hry, _⟩ := h4.bs.rs
      obtain ⟨Ay, cy, hty, hLy⟩ := hry.list
      have htop4 := h4.bs.top
      have hBr0 := bel_refl w4
      clear c0 c1 c2 c3 c4 h hT hst hry hEl HPK
      go_wp2_with fail
      go_loopw [5, 6] (fun s5 s6 wr => ∃ j n : Nat, j ≤ Es4.length ∧ s6 = .int .i64 j ∧ s5 = .int .i64 n ∧ Hid (n = runs (Es4.take j)) ∧ n ≤ j ∧ Below w4.heap.size w4 wr) (fun _ s6 _ => Es4.length - (intOf s6).toNat)
      case atStart => exact ⟨0, 0, Nat.zero_le _, rfl, rfl, Lib.hid rfl, Nat.le_refl _, hBr0⟩
      case round =>
        obtain ⟨j, n, hj, rfl, rfl, HN, hnj, hBr⟩ := hrel
        clear hBr0
        have htopr := htop4.below hBr
        have htyr := hty.below hBr
        have qb := htopr.rd
        have lb := htopr.lt
        have qy := htyr.rd
        have ly := htyr.lt
        by_cases hjl : j < Es4.length
        · obtain ⟨x, hx⟩ : ∃ x, Es4[j]? = some x := ⟨_, List.getElem?_eq_getElem hjl⟩
          have j0 : (0 : Int) ≤ (j : Int) := by omega
          have j1 : (j : Int) < (Es4.length : Int) := by omega
          by_cases hj0 : j = 0
          · subst hj0
            have HN2 : Hid (n + 1 = runs (Es4.take (0 + 1))) := Lib.hid (by rw [runs_zero hx, HN.out]; rfl)
            clear hx
            go_wp2_with fail
            refine wp_region_quiet_below (by kernel_rfl) (by kernel_rfl) ?_
            repeat (any_goals (first | go_big_quiet_step ((fail)) | fail))
            refine wpQuiet_nil ?_
            intro w5 hw'
            have hb5 := class_below hw'
            have hBr5 := bel_call hBr hb5
            clear hw' hb5 qb lb qy ly
            go_wp2_with fail
            go_roundw
            case rel => exact ⟨0 + 1, n + 1, by omega, by go_num, by go_num, HN2, by omega, hBr5⟩
            case measure => simp [intOf]; omega
          · obtain ⟨i, rfl⟩ : ∃ i, j = i + 1 := ⟨j - 1, by omega⟩
            obtain ⟨y, hy⟩ : ∃ y, Es4[i]? = some y := ⟨_, List.getElem?_eq_getElem (by omega)⟩
            obtain ⟨g, off, hAe, hg, c0, c1, _, _, _, _, _⟩ := ed_at (hLy.below hBr) hx
            subst hAe
            obtain ⟨g2, off2, hAe2, hg2, e0, e1, _, _, _, _, _⟩ := ed_at (hLy.below hBr) hy
            injection hAe2 with hAe2
            injection hAe2 with hAe3 hAe4 _
            subst hAe3 hAe4
            have HNX := runs_next hy hx
            have hne := fun W => neq_cell W y.row y.col x.row x.col
            obtain ⟨q, hq⟩ : ∃ q, q = decide ((⟨y.row, y.col⟩ : Cl) = ⟨x.row, x.col⟩) := ⟨_, rfl⟩
            rw [← hq] at hne
            have HNX2 : Hid (runs (Es4.take (i + 1 + 1)) = if q = true then n else n + 1) := Lib.hid (by
              rw [HNX, ← HN.out, hq]
              by_cases e : (⟨y.row, y.col⟩ : Cl) = ⟨x.row, x.col⟩
              · rw [if_pos (show eCl y = eCl x from e), decide_eq_true e]; rfl
              · rw [if_neg (show ¬ eCl y = eCl x from e), decide_eq_false e]; rfl)
            have hi0 : (((i + 1 : Nat) : Int) == 0) = false := by rw [beq_eq_false_iff_ne]; omega
            have hi0' : (((i : Int) + 1) == 0) = false := by rw [beq_eq_false_iff_ne]; omega
            have he0 : IntKind.i64.wrap ((i : Int) + 1 - 1) = (i : Int) := by rw [IntWalk.i64_in _ (by omega)]; omega
            have he1 : (i : Int) + 1 - 1 = (i : Int) := by omega
            have m0 : (0 : Int) ≤ (i : Int) := by omega
            have m1 : (i : Int) < (Es4.length : Int) := by omega
            clear hx hy hq HNX
            go_wp2_with fail
            have d0 := fun d os => cell_regrown c0 d os
            have d1 := fun d os => cell_regrown c1 d os
            have d2 := fun d os => cell_regrown e0 d os
            have d3 := fun d os => cell_regrown e1 d os
            have gb := htopr.gr
            have gy := htyr.gr
            cases q with
            | true =>
              rw [show (!true) = false from rfl] at hne
              refine wp_region_quiet_below (by kernel_rfl) (by kernel_rfl) ?_
              repeat (any_goals (first | go_big_quiet_step ((fail)) | fail))
              refine wpQuiet_nil ?_
              intro w5 hw'
              have hb5 := class_below hw'
              have hBr5 := bel_call hBr hb5
              clear hw' hb5 qb lb qy ly d0 d1 d2 d3 gb gy hne c0 c1 e0 e1
              go_wp2_with fail
              go_roundw
              case rel => exact ⟨i + 1 + 1, n, by omega, by go_num, rfl, Lib.hid (by rw [HNX2.out]; rfl), by omega, hBr5⟩
              case measure => simp [intOf]; omega
            | false =>
              rw [show (!false) = true from rfl] at hne
              refine wp_region_quiet_below (by kernel_rfl) (by kernel_rfl) ?_
              repeat (any_goals (first | go_big_quiet_step ((fail)) | fail))
              refine wpQuiet_nil ?_
              intro w5 hw'
              have hb5 := class_below hw'
              have hBr5 := bel_call hBr hb5
              clear hw' hb5 qb lb qy ly d0 d1 d2 d3 gb gy hne c0 c1 e0 e1
              go_wp2_with fail
              go_roundw
              case rel => exact ⟨i + 1 + 1, n + 1, by omega, by go_num, by go_num, Lib.hid (by rw [HNX2.out]; rfl), by omega, hBr5⟩
              case measure => simp [intOf]; omega
        obtain rfl : j = Es4.length := by omega
        have j1 : ¬ ((Es4.length : Int) < (Es4.length : Int)) := by omega
        have hle : pk9 ≤ (n : Int) := by have := HP4.out; have h2 := HN.out; rw [List.take_length] at h2; omega
        have hdl : decide ((n : Int) < pk9) = false := decide_eq_false (by omega)
        have h5 := h4.below hBr
        have c0 := (h5.bel.cell hb1).trans z0
        go_wp2_with fail
        refine (pick_any d.kd _ hkd).mono ?_
        rintro e w18 ⟨rfl, rfl⟩
        obtain ⟨q, hq⟩ : ∃ q, q = pk4 d.kd := ⟨_, rfl⟩
        have hin := pk4_in d.kd
        rw [← hq] at hin ⊢
        have qb5 := h5.bs.top.rd
        have lb5 := h5.bs.top.lt
        clear hq qb lb qy ly c0 h4 htopr htyr hBr
        rcases (show q = 0 ∨ q = 1 ∨ q = 2 ∨ q = 3 by omega) with rfl | rfl | rfl | rfl
        · skip
          go_wp2_with fail
          refine (mpeak_any h5.bs.mm).mono ?_
          rintro e w19 ⟨rfl, hb19⟩
          replace h5 := h5.below hb19
          clear qb5 lb5 hb19
          go_wp2_with fail
          go_roundw
          case rel => exact ⟨k + 1, col4, pk9, f4, Es4, by omega, by go_num, h5, HP4⟩
          case measure => simp [intOf]; omega
        · skip
          go_wp2_with fail
          refine (mpeak_any h5.bs.mm).mono ?_
          rintro e w19 ⟨rfl, hb19⟩
          replace h5 := h5.below hb19
          clear qb5 lb5 hb19
          go_wp2_with fail
          go_roundw
          case rel => exact ⟨k + 1, col4, pk9, f4, Es4, by omega, by go_num, h5, HP4⟩
          case measure => simp [intOf]; omega
        · go_wp2_with fail
          clear qb5 lb5
          go_roundw
          case rel => exact ⟨k + 1, col4, pk9, f4, Es4, by omega, by go_num, h5, HP4⟩
          case measure => simp [intOf]; omega
        · go_wp2_with fail
          clear qb5 lb5
          go_roundw
          case rel => exact ⟨k + 1, col4, pk9, f4, Es4, by omega, by go_num, h5, HP4⟩
          case measure => simp [intOf]; omega
    obtain rfl : k = D.length := by omega
    have i1 : ¬ ((D.length : Int) < (D.length : Int)) := by omega
    have hWf := h.bel
    go_wp2_with fail
    refine (lives_any _).mono ?_
    rintro e w20 ⟨rfl, hb20⟩
    have hW20 := bel_call hWf hb20
    clear hb20
    go_wp2_with fail
    go_ret
    exact ⟨rfl, hW20⟩
end Go.Proofs.Ytdionganlmnlkaa

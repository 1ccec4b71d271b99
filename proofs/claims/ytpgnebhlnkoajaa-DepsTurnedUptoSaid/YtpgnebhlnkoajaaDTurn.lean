/-
  Deps: the walk of DepsTurned. Conditions: the deeds lie as said; they hold no more than the bound.
-/
import Derived.Test.YtpgnebhlnkoajaaDTot
namespace Go.Proofs.Ytpgnebhlnkoajaa
open Go.ChangeShapes Go.WideShapes Go.ChangeAt Go.RowKit Go.Deep
attribute [local go_sem] Cls

def hasE (row col : Int) (x : Cl) (L : List Ed) : Bool := L.any fun p => inB p.t p.l p.b p.r row col && decide ((⟨p.row, p.col⟩ : Cl) = x)
theorem hasE_take {row col : Int} {x : Cl} {L : List Ed} {k : Nat} {p : Ed} (h : L[k]? = some p) : hasE row col x (L.take (k + 1)) = (hasE row col x (L.take k) || (inB p.t p.l p.b p.r row col && decide ((⟨p.row, p.col⟩ : Cl) = x))) := by
  unfold hasE
  rw [List.take_add_one, h, List.any_append]
  simp
def toldE (p : Ed) (C : List Cl) : Bool := C.any fun x => decide (x = (⟨p.row, p.col⟩ : Cl))
theorem toldE_take {p : Ed} {C : List Cl} {k : Nat} {x : Cl} (h : C[k]? = some x) : toldE p (C.take (k + 1)) = (toldE p (C.take k) || decide (x = (⟨p.row, p.col⟩ : Cl))) := by
  unfold toldE
  rw [List.take_add_one, h, List.any_append]
  simp
theorem hasE_drs {row col : Int} {L : List Ed} (hs : SrtE L) {x : Cl} (hx : x ∈ drs row col L) : hasE row col x L = true := by
  obtain ⟨p, hp, hi, rfl⟩ := ((drs_spec row col hs).2 x).1 hx
  exact List.any_eq_true.2 ⟨p, hp, by simp [hi, eCl]⟩
theorem toldE_drs {row col : Int} {L : List Ed} (hs : SrtE L) {p : Ed} (hp : p ∈ L) (hi : inB p.t p.l p.b p.r row col = true) : toldE p (drs row col L) = true :=
  List.any_eq_true.2 ⟨_, ((drs_spec row col hs).2 _).2 ⟨p, hp, hi, rfl⟩, by simp [eCl]⟩
theorem bef_of_lt {x y : Cl} (h : ltC x y) : befB x.row x.col y.row y.col = true := by
  unfold ltC at h
  unfold befB
  simp
  omega
theorem drs_len (row col : Int) : ∀ (L : List Ed) (out : List Cl), (L.foldl (fun o e => ovS row col o (toP e)) out).length ≤ out.length + L.length
  | [], out => by simp
  | p :: L, out => by
    have h := drs_len row col L (ovS row col out (toP p))
    have h2 : (ovS row col out (toP p)).length ≤ out.length + 1 := by
      unfold ovS
      split
      · simp
      · omega
    rw [List.foldl_cons, List.length_cons]
    omega

set_option maxHeartbeats 6400000 in
set_option maxRecDepth 100000 in
theorem depsTurned_walk (A : Option Addr) (cap : Nat) (D : List DdV) (row col : Int) (w : World) (hS : DeedsAt w A D) (htot : tot D ≤ 1048576) (hrc : rngC ⟨row, col⟩) :
    Calls Try.prog 4 #[.slice A D.length cap, .agg #[.int .i64 row, .int .i64 col]] w fun e w' => e = .returned (.bool true) ∧ Below w.heap.size w w' := by
  have HRC := Lib.hid hrc
  have hDl := tot_len D
  clear hrc
  go_enter Try.func4, Try.ntmps4
  go_wp2_with fail
  have hc0 := Blk.new w rfl 33 #[.int .i64 row, .int .i64 col]
  have hB0 := bel_alloc (bel_refl w) (.cells #[.int .i64 row, .int .i64 col] 33)
  refine (ds_new _).mono ?_
  rintro e w1 ⟨db, O0, rfl, hP0, hO0, hb1⟩
  replace hc0 := hc0.below hb1
  replace hB0 := bel_call hB0 hb1
  have hO0' : ∀ z, O0 z → w.heap.size < z := fun z hz => by have := hO0 z hz; simp at this; omega
  clear hb1 hO0
  go_wp2_with fail
  go_loopw [6] (fun s6 wr => ∃ (k : Nat) (O : Nat → Prop) (Es : List Ed), k ≤ D.length ∧ s6 = .int .i64 k ∧ DS wr db (2 * tot (D.take k)) O Es ∧ Blk wr w.heap.size 33 #[.int .i64 row, .int .i64 col] ∧ (∀ z, O z → w.heap.size < z) ∧ Below w.heap.size w wr) (fun s6 _ => D.length - (intOf s6).toNat)
  case atStart => exact ⟨0, O0, [], Nat.zero_le _, rfl, hP0, hc0, hO0', hB0⟩
  case round =>
    obtain ⟨k, O, Ls, hk, rfl, hP, hc, hO, hW⟩ := hrel
    clear hP0 hc0 hO0' hB0
    by_cases hkl : k < D.length
    · obtain ⟨d, hd⟩ : ∃ d, D[k]? = some d := ⟨_, List.getElem?_eq_getElem hkl⟩
      obtain ⟨b1, o1, hA1, hb1, ⟨c0, c1, c2⟩, hLi, _⟩ := hS k d hd
      subst hA1
      replace c0 := (hW.cell hb1).trans c0
      replace c1 := (hW.cell hb1).trans c1
      replace c2 := (hW.cell hb1).trans c2
      have htk := tot_take hd
      have htl := tot_le D (k + 1)
      have i0 : (0 : Int) ≤ (k : Int) := by omega
      have i1 : (k : Int) < (D.length : Int) := by omega
      clear hd
      go_wp2_with fail
      go_still_tail 11, (by kernel_rfl)
      go_wp2_with fail
      refine (ds_set db _ O Ls d.row d.col d.L d.A d.cap _ (hP.below (bel_drew (bel_refl wr))) (hLi.below (bel_drew hW)) (fun x hx b off hb hz => by
        have h1 := lies_lt hLi hx hb
        have h2 := hO b hz
        omega) (by omega)).mono ?_
      rintro e w4 ⟨O4, rfl, hP4, hF4, hO4⟩
      have hc4 := hF4.blk hc.drew (fun hz => by have := hO _ hz; omega)
      have hW4 := hF4.bel (bel_drew hW) (fun z hz => Nat.le_of_lt (hO z hz))
      have hO4' : ∀ z, O4 z → w.heap.size < z := fun z hz => (hO4 z hz).elim (hO z) (fun h => Nat.lt_of_lt_of_le hc.lt h)
      have hP5 := hP4.mono (N' := 2 * tot (D.take (k + 1))) (by omega)
      clear hP4 htk htl
      go_wp2_with fail
      go_roundw
      case rel => exact ⟨k + 1, O4, _, by omega, by go_num, hP5, hc4, hO4', hW4⟩
      case measure => simp [intOf]; omega
    obtain rfl : k = D.length := by omega
    rw [List.take_length] at hP
    have i1 : ¬ ((D.length : Int) < (D.length : Int)) := by omega
    have rdc := hc.rd
    have hs := hP.srt
    go_wp2_with fail
    refine (ds_direct db _ O Ls row col _ hP HRC.out (by omega)).mono ?_
    rintro e w2 ⟨v4, rfl, hl, hb2⟩
    obtain ⟨A4, c4, rfl, _, _, hl, _⟩ := hl.see
    replace hc := hc.below hb2
    replace hP := hP.below hb2
    replace hW := bel_call hW hb2
    clear hb2 rdc
    go_wp2_with fail
    refine (ds_edges db _ O Ls _ hP (by omega)).mono ?_
    rintro e w3 ⟨v5, rfl, hL, hb3⟩
    obtain ⟨A5, c5, rfl, _, _, hL, _⟩ := hL.see
    replace hc := hc.below hb3
    replace hl := hl.below hb3
    replace hW := bel_call hW hb3
    have hLlen : Ls.length ≤ 9223372036854775806 := by have := hP.len; omega
    have hClen : (drs row col Ls).length ≤ 9223372036854775806 := by have := drs_len row col Ls []; have := hP.len; unfold drs; simp at *; omega
    clear hb3 hP hS
    obtain ⟨hsC, hspec⟩ := drs_spec row col hs
    have hhas : Hid (∀ x, x ∈ drs row col Ls → hasE row col x Ls = true) := Lib.hid (fun x hx => hasE_drs hs hx)
    have htold : Hid (∀ p, p ∈ Ls → inB p.t p.l p.b p.r row col = true → toldE p (drs row col Ls) = true) := Lib.hid (fun p hp hi => toldE_drs hs hp hi)
    have HSC := Lib.hid hsC
    clear hspec hs hsC
    generalize drs row col Ls = Cs at *
    go_wp2_with fail
    go_loopw [9] (fun s9 wy => ∃ j : Nat, j ≤ Ls.length ∧ s9 = .int .i64 j ∧ Below w3.heap.size w3 wy) (fun s9 _ => Ls.length - (intOf s9).toNat)
    case atStart => exact ⟨0, Nat.zero_le _, rfl, bel_refl w3⟩
    case round =>
      obtain ⟨j, hj, rfl, hbz⟩ := hrel
      by_cases hjl : j < Ls.length
      · obtain ⟨p, hp⟩ : ∃ p, Ls[j]? = some p := ⟨_, List.getElem?_eq_getElem hjl⟩
        obtain ⟨ge, oe, hAe, hge, a0, a1, a2, a3, a4, a5, a6⟩ := ed_at hL hp
        subst hAe
        have HPM := Lib.hid (List.mem_of_getElem? hp)
        have j0 : (0 : Int) ≤ (j : Int) := by omega
        have j1 : (j : Int) < (Ls.length : Int) := by omega
        have r3 := fun d os => cell_regrown ((hbz.cell hge).trans a3) d os
        have r4 := fun d os => cell_regrown ((hbz.cell hge).trans a4) d os
        have r5 := fun d os => cell_regrown ((hbz.cell hge).trans a5) d os
        have r6 := fun d os => cell_regrown ((hbz.cell hge).trans a6) d os
        have hcz := hc.below hbz
        have gc := hcz.gr
        have hP := fun W => rin_any p.t p.l p.b p.r row col W
        have ht := htold.out p HPM.out
        obtain ⟨u, hu⟩ : ∃ u, u = inB p.t p.l p.b p.r row col := ⟨_, rfl⟩
        rw [← hu] at hP ht
        have HP := Lib.hid hP
        have HT := Lib.hid ht
        clear hP hu ht hp a2
        go_wp2_with fail
        refine wp_region_quiet_below (by kernel_rfl) (by kernel_rfl) ?_
        repeat (any_goals (first | go_big_quiet_step ((first | (go_at_call 20; exact Calls.regrown_of (HP.out _)))) | fail))
        refine wpQuiet_nil ?_
        intro w5 hw'
        have hb5 := class_below hw'
        clear hw'
        clear r3 r4 r5 r6 gc
        have hbz5 := bel_call hbz hb5
        clear hb5 hcz
        go_wp2_with fail
        go_loopw [11, 12] (fun s11 s12 wv => ∃ i : Nat, i ≤ Cs.length ∧ s11 = .bool (toldE p (Cs.take i)) ∧ s12 = .int .i64 i ∧ Below w3.heap.size w3 wv) (fun _ s12 _ => Cs.length - (intOf s12).toNat)
        case atStart => exact ⟨0, Nat.zero_le _, rfl, rfl, hbz5⟩
        case round =>
          obtain ⟨i, hi', rfl, rfl, hbv⟩ := hrel
          clear hbz5
          have r0 := fun d os => cell_regrown ((hbv.cell hge).trans a0) d os
          have r1 := fun d os => cell_regrown ((hbv.cell hge).trans a1) d os
          by_cases hil' : i < Cs.length
          · obtain ⟨x, hx⟩ : ∃ x, Cs[i]? = some x := ⟨_, List.getElem?_eq_getElem hil'⟩
            obtain ⟨gx, ox, hAe, hgx, x0, x1⟩ := cl_at hl hx
            subst hAe
            have hst := toldE_take (p := p) hx
            have y0 := fun d os => cell_regrown ((hbv.cell hgx).trans x0) d os
            have y1 := fun d os => cell_regrown ((hbv.cell hgx).trans x1) d os
            have hE := fun W => eql_cell W x.row x.col p.row p.col
            have i0 : (0 : Int) ≤ (i : Int) := by omega
            have i1 : (i : Int) < (Cs.length : Int) := by omega
            obtain ⟨q, hq⟩ : ∃ q, q = decide ((⟨x.row, x.col⟩ : Cl) = ⟨p.row, p.col⟩) := ⟨_, rfl⟩
            obtain ⟨v, hv⟩ : ∃ v, v = toldE p (Cs.take i) := ⟨_, rfl⟩
            rw [show x = (⟨x.row, x.col⟩ : Cl) from rfl, ← hq, ← hv] at hst
            rw [← hq] at hE
            rw [← hv]
            have HST := Lib.hid hst
            clear hst hq hv hx x0 x1
            cases v with
            | true =>
              go_wp2_with fail
              refine wp_region_quiet_below (by kernel_rfl) (by kernel_rfl) ?_
              repeat (any_goals (first | go_big_quiet_step ((first | fail)) | fail))
              refine wpQuiet_nil ?_
              intro w5 hw'
              have hb5 := class_below hw'
              clear hw'
              clear r0 r1 y0 y1 hE
              go_wp2_with fail
              go_roundw
              case rel => exact ⟨i + 1, by omega, by rw [HST.out]; rfl, by go_num, bel_call hbv hb5⟩
              case measure => simp [intOf]; omega
            | false =>
              go_wp2_with fail
              refine wp_region_quiet_below (by kernel_rfl) (by kernel_rfl) ?_
              repeat (any_goals (first | go_big_quiet_step ((first | fail)) | fail))
              refine wpQuiet_nil ?_
              intro w5 hw'
              have hb5 := class_below hw'
              clear hw'
              clear r0 r1 y0 y1 hE
              go_wp2_with fail
              go_roundw
              case rel => exact ⟨i + 1, by omega, by rw [HST.out]; rfl, by go_num, bel_call hbv hb5⟩
              case measure => simp [intOf]; omega
          · obtain rfl : i = Cs.length := by omega
            have i1 : ¬ ((Cs.length : Int) < (Cs.length : Int)) := by omega
            rw [List.take_length]
            cases u with
            | true =>
              rw [HT.out rfl]
              clear r0 r1
              go_wp2_with fail
              go_roundw
              case rel => exact ⟨j + 1, by omega, by go_num, hbv⟩
              case measure => simp [intOf]; omega
            | false =>
              clear r0 r1
              go_wp2_with fail
              go_roundw
              case rel => exact ⟨j + 1, by omega, by go_num, hbv⟩
              case measure => simp [intOf]; omega
      · obtain rfl : j = Ls.length := by omega
        have j1 : ¬ ((Ls.length : Int) < (Ls.length : Int)) := by omega
        go_wp2_with fail
        go_loopw [13] (fun s13 wy => ∃ i : Nat, i ≤ Cs.length ∧ s13 = .int .i64 i ∧ Below w3.heap.size w3 wy) (fun s13 _ => Cs.length - (intOf s13).toNat)
        case atStart => exact ⟨0, Nat.zero_le _, rfl, hbz⟩
        case round =>
          obtain ⟨i, hi, rfl, hby⟩ := hrel
          clear hbz j1
          by_cases hil : i < Cs.length
          · obtain ⟨x, hx⟩ : ∃ x, Cs[i]? = some x := ⟨_, List.getElem?_eq_getElem hil⟩
            have HX := Lib.hid hx
            obtain ⟨gx, ox, hAe, hgx, x0, x1⟩ := cl_at hl hx
            subst hAe
            have i0 : (0 : Int) ≤ (i : Int) := by omega
            have i1 : (i : Int) < (Cs.length : Int) := by omega
            clear hx
            go_wp2_with fail
            go_loopw [14, 15] (fun s14 s15 wz => ∃ j : Nat, j ≤ Ls.length ∧ s14 = .bool (hasE row col x (Ls.take j)) ∧ s15 = .int .i64 j ∧ Below w3.heap.size w3 wz) (fun _ s15 _ => Ls.length - (intOf s15).toNat)
            case atStart => exact ⟨0, Nat.zero_le _, rfl, rfl, hby⟩
            case round =>
              obtain ⟨j, hj, rfl, rfl, hbz⟩ := hrel
              have hcz := hc.below hbz
              by_cases hjl : j < Ls.length
              · obtain ⟨p, hp⟩ : ∃ p, Ls[j]? = some p := ⟨_, List.getElem?_eq_getElem hjl⟩
                obtain ⟨ge, oe, hAe, hge, a0, a1, a2, a3, a4, a5, a6⟩ := ed_at hL hp
                subst hAe
                have hst := hasE_take (row := row) (col := col) (x := x) hp
                have r3 := fun d os => cell_regrown ((hbz.cell hge).trans a3) d os
                have r4 := fun d os => cell_regrown ((hbz.cell hge).trans a4) d os
                have r5 := fun d os => cell_regrown ((hbz.cell hge).trans a5) d os
                have r6 := fun d os => cell_regrown ((hbz.cell hge).trans a6) d os
                have gc := hcz.gr
                have hE := fun W => eql_cell W p.row p.col x.row x.col
                have hP := fun W => rin_any p.t p.l p.b p.r row col W
                have j0 : (0 : Int) ≤ (j : Int) := by omega
                have j1 : (j : Int) < (Ls.length : Int) := by omega
                obtain ⟨q, hq⟩ : ∃ q, q = decide ((⟨p.row, p.col⟩ : Cl) = ⟨x.row, x.col⟩) := ⟨_, rfl⟩
                obtain ⟨u, hu⟩ : ∃ u, u = inB p.t p.l p.b p.r row col := ⟨_, rfl⟩
                obtain ⟨v, hv⟩ : ∃ v, v = hasE row col x (Ls.take j) := ⟨_, rfl⟩
                rw [show x = (⟨x.row, x.col⟩ : Cl) from rfl, ← hq, ← hu, ← (show x = (⟨x.row, x.col⟩ : Cl) from rfl), ← hv] at hst
                rw [← hq] at hE
                rw [← hu] at hP
                rw [← hv]
                have HST := Lib.hid hst
                have HP := Lib.hid hP
                clear hst hP hq hu hv hp a2 a3 a4 a5 a6
                go_wp2_with fail
                refine wp_region_quiet_below (by kernel_rfl) (by kernel_rfl) ?_
                repeat (any_goals (first | go_big_quiet_step ((first | (go_at_call 20; exact Calls.regrown_of (HP.out _)))) | fail))
                refine wpQuiet_nil ?_
                intro w5 hw'
                have hb5 := class_below hw'
                clear hw'
                clear r3 r4 r5 r6 gc
                have hbz5 := bel_call hbz hb5
                have s0 := fun d os => cell_regrown ((hbz5.cell hge).trans a0) d os
                have s1 := fun d os => cell_regrown ((hbz5.cell hge).trans a1) d os
                have y0 := fun d os => cell_regrown ((hbz5.cell hgx).trans x0) d os
                have y1 := fun d os => cell_regrown ((hbz5.cell hgx).trans x1) d os
                clear hb5 hcz a0 a1
                cases v with
                | true =>
                  go_wp2_with fail
                  refine wp_region_quiet_below (by kernel_rfl) (by kernel_rfl) ?_
                  repeat (any_goals (first | go_big_quiet_step ((first | fail)) | fail))
                  refine wpQuiet_nil ?_
                  intro w5 hw'
                  have hb5 := class_below hw'
                  clear hw'
                  clear s0 s1 y0 y1 hE
                  go_wp2_with fail
                  go_roundw
                  case rel => exact ⟨j + 1, by omega, by rw [HST.out]; rfl, by go_num, bel_call hbz5 hb5⟩
                  case measure => simp [intOf]; omega
                | false =>
                  cases u with
                  | false =>
                    go_wp2_with fail
                    refine wp_region_quiet_below (by kernel_rfl) (by kernel_rfl) ?_
                    repeat (any_goals (first | go_big_quiet_step ((first | fail)) | fail))
                    refine wpQuiet_nil ?_
                    intro w5 hw'
                    have hb5 := class_below hw'
                    clear hw'
                    clear s0 s1 y0 y1 hE
                    go_wp2_with fail
                    go_roundw
                    case rel => exact ⟨j + 1, by omega, by rw [HST.out]; rfl, by go_num, bel_call hbz5 hb5⟩
                    case measure => simp [intOf]; omega
                  | true =>
                    go_wp2_with fail
                    refine wp_region_quiet_below (by kernel_rfl) (by kernel_rfl) ?_
                    repeat (any_goals (first | go_big_quiet_step ((first | fail)) | fail))
                    refine wpQuiet_nil ?_
                    intro w5 hw'
                    have hb5 := class_below hw'
                    clear hw'
                    clear s0 s1 y0 y1 hE
                    go_wp2_with fail
                    go_roundw
                    case rel => exact ⟨j + 1, by omega, by rw [HST.out]; rfl, by go_num, bel_call hbz5 hb5⟩
                    case measure => simp [intOf]; omega
              · obtain rfl : j = Ls.length := by omega
                have hhx := hhas.out x (List.mem_of_getElem? HX.out)
                rw [List.take_length, hhx]
                clear hhx
                have j1 : ¬ ((Ls.length : Int) < (Ls.length : Int)) := by omega
                have y0 := fun d os => cell_regrown ((hbz.cell hgx).trans x0) d os
                have y1 := fun d os => cell_regrown ((hbz.cell hgx).trans x1) d os
                by_cases hi0 : i = 0
                · subst hi0
                  go_wp2_with fail
                  refine wp_region_quiet_below (by kernel_rfl) (by kernel_rfl) ?_
                  repeat (any_goals (first | go_big_quiet_step ((first | (go_at_call 21; exact Calls.regrown_of (HP.out _)))) | fail))
                  refine wpQuiet_nil ?_
                  intro w5 hw'
                  have hb5 := class_below hw'
                  clear hw'
                  clear y0 y1
                  go_wp2_with fail
                  go_roundw
                  case rel => exact ⟨0 + 1, by omega, by go_num, bel_call hbz hb5⟩
                  case measure => simp [intOf]; omega
                · obtain ⟨m, hm⟩ : ∃ m, m + 1 = i := ⟨i - 1, by omega⟩
                  obtain ⟨y, hy⟩ : ∃ y, Cs[m]? = some y := ⟨_, List.getElem?_eq_getElem (by omega)⟩
                  obtain ⟨gy, oy, hAe, hgy, v0, v1⟩ := cl_at hl hy
                  injection hAe with hAe
                  injection hAe with hAe1 hAe2 _
                  subst hAe1 hAe2
                  have u0 := fun d os => cell_regrown ((hbz.cell hgx).trans v0) d os
                  have u1 := fun d os => cell_regrown ((hbz.cell hgx).trans v1) d os
                  have hlt : ltC y x := List.pairwise_iff_getElem.1 HSC.out m i (by omega) hil (by omega) |> fun h => by
                    rw [(List.getElem?_eq_some_iff.1 hy).2, (List.getElem?_eq_some_iff.1 HX.out).2] at h
                    exact h
                  have hP := fun W => rbefore_any y.row y.col x.row x.col W
                  rw [bef_of_lt hlt] at hP
                  have HP := Lib.hid hP
                  have hgt : ((i : Int) == 0) = false := by rw [beq_eq_false_iff_ne]; omega
                  have hgn : ¬ i = 0 := hi0
                  have hz1 : IntKind.i64.wrap ((i : Int) - 1) = (m : Int) := by rw [IntWalk.i64_in _ (by omega)]; omega
                  have m0 : (0 : Int) ≤ (m : Int) := by omega
                  have m1 : (m : Int) < (Cs.length : Int) := by omega
                  have HM := Lib.hid hm
                  clear hm hy hP hlt v0 v1 hi0
                  go_wp2_with fail
                  refine wp_region_quiet_below (by kernel_rfl) (by kernel_rfl) ?_
                  repeat (any_goals (first | go_big_quiet_step ((first | (go_at_call 21; exact Calls.regrown_of (HP.out _)))) | fail))
                  refine wpQuiet_nil ?_
                  intro w5 hw'
                  have hb5 := class_below hw'
                  clear hw'
                  clear y0 y1 u0 u1
                  go_wp2_with fail
                  go_roundw
                  case rel => exact ⟨i + 1, by omega, by go_num, bel_call hbz hb5⟩
                  case measure => simp [intOf]; omega
          · obtain rfl : i = Cs.length := by omega
            have i1 : ¬ ((Cs.length : Int) < (Cs.length : Int)) := by omega
            go_wp2_with fail
            refine (dlives_any _).mono ?_
            rintro e w9 ⟨rfl, hb9⟩
            have hW9 := bel_call (bel_call hW hby) hb9
            clear hb9
            go_wp2_with fail
            go_ret
            exact ⟨rfl, hW9⟩
end Go.Proofs.Ytpgnebhlnkoajaa

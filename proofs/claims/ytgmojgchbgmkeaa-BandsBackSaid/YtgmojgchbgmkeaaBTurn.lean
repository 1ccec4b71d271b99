/-
  Bands: the walk of BandsTurned. Conditions: the steps lie as said; they take less than the reach.
-/
import Derived.Test.YtgmojgchbgmkeaaBScr
namespace Go.Proofs.Ytgmojgchbgmkeaa
open Go.ChangeShapes Go.WideShapes Go.ChangeAt Go.RowKit Go.Deep
attribute [local go_sem] Cls

/-- Has one of them this cell, and covers the other? -/
def hasB (row col : Int) (x : Cl) (L : List Pr) : Bool := L.any fun p => decide ((⟨p.row, p.col⟩ : Cl) = x) && inB p.t p.l p.b p.r row col
theorem hasB_take {row col : Int} {x : Cl} {L : List Pr} {k : Nat} {p : Pr} (h : L[k]? = some p) : hasB row col x (L.take (k + 1)) = (hasB row col x (L.take k) || (decide ((⟨p.row, p.col⟩ : Cl) = x) && inB p.t p.l p.b p.r row col)) := by
  unfold hasB
  rw [List.take_add_one, h, List.any_append]
  simp
def toldB (p : Pr) (C : List Cl) : Bool := C.any fun x => decide (x = (⟨p.row, p.col⟩ : Cl))
theorem toldB_take {p : Pr} {C : List Cl} {k : Nat} {x : Cl} (h : C[k]? = some x) : toldB p (C.take (k + 1)) = (toldB p (C.take k) || decide (x = (⟨p.row, p.col⟩ : Cl))) := by
  unfold toldB
  rw [List.take_add_one, h, List.any_append]
  simp
theorem hasB_ovs {row col : Int} {L : List Pr} (hs : SrtP L) {x : Cl} (hx : x ∈ ovs row col L) : hasB row col x L = true := by
  obtain ⟨p, hp, hi, rfl⟩ := ((ovs_spec row col hs).2 x).1 hx
  exact List.any_eq_true.2 ⟨p, hp, by simp [hi]⟩
theorem toldB_ovs {row col : Int} {L : List Pr} (hs : SrtP L) {p : Pr} (hp : p ∈ L) (hi : inB p.t p.l p.b p.r row col = true) : toldB p (ovs row col L) = true :=
  List.any_eq_true.2 ⟨_, ((ovs_spec row col hs).2 _).2 ⟨p, hp, hi, rfl⟩, by simp⟩
theorem PB.len {w : World} {bb N : Nat} {O : Nat → Prop} {Ls : List Pr} (h : PB w bb N O Ls) : Ls.length ≤ N := by
  have hs := h.srt
  obtain ⟨ma, mb, nb, L, F, _, _, _, h2, _, h4⟩ := h
  refine Nat.le_trans (pick_le (fun x => some x) (fun p => p) Ls L (hs.imp fun {a b} (h : ltP a b) (e : a = b) => ltP_irrefl a (by subst e; exact h)) (fun p hp => ⟨p, (h4 p).1 hp, rfl⟩)) h2
theorem bef_of_lt {x y : Cl} (h : ltC x y) : befB x.row x.col y.row y.col = true := by
  unfold ltC at h
  unfold befB
  simp
  omega

set_option maxHeartbeats 6400000 in
set_option maxRecDepth 100000 in
theorem bandsTurned_walk (A : Option Addr) (len cap : Nat) (ops : Nat → OpB) (row col : Int) (w : World) (hS : ScrB w A len ops) (hlen : len * 56 ≤ 140737488351232) (hrow : i64P row) :
    Calls Try.prog 5 #[.slice A len cap, .agg #[.int .i64 row, .int .i64 col]] w fun e w' => e = .returned (.bool true) ∧ Below w.heap.size w w' := by
  have HROW := Lib.hid hrow
  clear hrow
  go_enter Try.func5, Try.ntmps5
  go_wp2_with fail
  have hc0 := Blk.new w rfl 33 #[.int .i64 row, .int .i64 col]
  have hB0 := bel_alloc (bel_refl w) (.cells #[.int .i64 row, .int .i64 col] 33)
  refine (pb_new _).mono ?_
  rintro e w1 ⟨bb, O0, rfl, hP0, hO0, hb1⟩
  replace hc0 := hc0.below hb1
  replace hB0 := bel_call hB0 hb1
  have hO0' : ∀ z, O0 z → w.heap.size < z := fun z hz => by have := hO0 z hz; simp at this; omega
  clear hb1 hO0
  go_wp2_with fail
  refine (known_any _).mono ?_
  rintro e w5 ⟨rfl, hb5⟩
  replace hc0 := hc0.below hb5
  replace hB0 := bel_call hB0 hb5
  replace hP0 := hP0.below hb5
  clear hb5
  go_wp2_with fail
  go_loopw [6] (fun s6 wr => ∃ (k : Nat) (O : Nat → Prop) (Ls : List Pr), k ≤ len ∧ s6 = .int .i64 k ∧ PB wr bb k O Ls ∧ Blk wr w.heap.size 33 #[.int .i64 row, .int .i64 col] ∧ (∀ z, O z → w.heap.size < z) ∧ Below w.heap.size w wr) (fun s6 _ => len - (intOf s6).toNat)
  case atStart => exact ⟨0, O0, [], Nat.zero_le _, rfl, hP0, hc0, hO0', hB0⟩
  case round =>
    obtain ⟨k, O, Ls, hk, rfl, hP, hc, hO, hW⟩ := hrel
    clear hP0 hc0 hO0' hB0
    by_cases hkl : k < len
    · obtain ⟨b1, o1, hA1, hb1, ⟨c0, c1, c2, c3, c4, c5, c6⟩, hr⟩ := hS k hkl
      subst hA1
      replace c0 := (hW.cell hb1).trans c0
      replace c1 := (hW.cell hb1).trans c1
      replace c2 := (hW.cell hb1).trans c2
      replace c3 := (hW.cell hb1).trans c3
      replace c4 := (hW.cell hb1).trans c4
      replace c5 := (hW.cell hb1).trans c5
      replace c6 := (hW.cell hb1).trans c6
      generalize (ops k).k = k0 at *
      generalize (ops k).t = t at *
      generalize (ops k).l = l at *
      generalize (ops k).b = b at *
      generalize (ops k).r = r at *
      generalize (ops k).row = row2 at *
      generalize (ops k).col = col2 at *
      have HR := Lib.hid hr
      have i0 : (0 : Int) ≤ (k : Int) := by omega
      have i1 : (k : Int) < (len : Int) := by omega
      clear hr
      by_cases h0 : k0 = 0
      · subst h0
        go_wp2_with fail
        go_still_tail 11, (by kernel_rfl)
        go_wp2_with fail
        refine (pb_add bb k O Ls t l b r row2 col2 _ (hP.below (bel_drew (bel_refl wr))) HR.out (by omega)).mono ?_
        rintro e w4 ⟨O4, rfl, hP4, hF4, hO4⟩
        have hc4 := hF4.blk hc.drew (fun hz => by have := hO _ hz; omega)
        have hW4 := hF4.bel (bel_drew hW) (fun z hz => Nat.le_of_lt (hO z hz))
        go_wp2_with fail
        go_roundw
        case rel => exact ⟨k + 1, O4, _, by omega, by go_num, hP4, hc4, fun z hz => (hO4 z hz).elim (hO z) (fun h => Nat.lt_of_lt_of_le hc.lt h), hW4⟩
        case measure => simp [intOf]; omega
      by_cases h1 : k0 = 1
      · subst h1
        clear h0
        go_wp2_with fail
        go_still_tail 11, (by kernel_rfl)
        go_wp2_with fail
        refine (pb_rem bb k O Ls t l b r row2 col2 _ (hP.below (bel_drew (bel_refl wr))) HR.out).mono ?_
        rintro e w4 ⟨O4, rfl, hP4, hF4, hO4⟩
        have hc4 := hF4.blk hc.drew (fun hz => by have := hO _ hz; omega)
        have hW4 := hF4.bel (bel_drew hW) (fun z hz => Nat.le_of_lt (hO z hz))
        go_wp2_with fail
        go_roundw
        case rel => exact ⟨k + 1, O4, _, by omega, by go_num, hP4.mono (Nat.le_succ _), hc4, fun z hz => hO z (hO4 z hz), hW4⟩
        case measure => simp [intOf]; omega
      have b0 : (k0 == 0) = false := by rw [beq_eq_false_iff_ne]; exact h0
      have b1 : (k0 == 1) = false := by rw [beq_eq_false_iff_ne]; exact h1
      clear h0 h1
      go_wp2_with fail
      go_roundw
      case rel => exact ⟨k + 1, O, Ls, by omega, by go_num, hP.mono (Nat.le_succ _), hc, hO, hW⟩
      case measure => simp [intOf]; omega
    obtain rfl : k = len := by omega
    have i1 : ¬ ((k : Int) < (k : Int)) := by omega
    have rdc := hc.rd
    have hs := hP.srt
    go_wp2_with fail
    refine (pb_over bb k O Ls row col _ hP HROW.out (by omega)).mono ?_
    rintro e w2 ⟨A4, rfl, hl, _, hb2⟩
    replace hc := hc.below hb2
    replace hP := hP.below hb2
    replace hW := bel_call hW hb2
    clear hb2 rdc
    go_wp2_with fail
    refine (pb_all bb k O Ls _ hP (by omega)).mono ?_
    rintro e w3 ⟨A5, rfl, hL, _, hb3⟩
    replace hc := hc.below hb3
    replace hl := hl.below hb3
    replace hW := bel_call hW hb3
    have hLlen : Ls.length ≤ 9223372036854775806 := by have := hP.len; omega
    clear hb3 hP hS
    have hClen : (ovs row col Ls).length ≤ 9223372036854775806 := by have := ovs_len row col Ls []; unfold ovs; simp at this; omega
    obtain ⟨hsC, hspec⟩ := ovs_spec row col hs
    have hhas : Hid (∀ x, x ∈ ovs row col Ls → hasB row col x Ls = true) := Lib.hid (fun x hx => hasB_ovs hs hx)
    have htold : Hid (∀ p, p ∈ Ls → inB p.t p.l p.b p.r row col = true → toldB p (ovs row col Ls) = true) := Lib.hid (fun p hp hi => toldB_ovs hs hp hi)
    have HSC := Lib.hid hsC
    clear hspec hs hsC
    generalize ovs row col Ls = Cs at *
    go_wp2_with fail
    go_loopw [9] (fun s9 wy => ∃ i : Nat, i ≤ Cs.length ∧ s9 = .int .i64 i ∧ Below w3.heap.size w3 wy) (fun s9 _ => Cs.length - (intOf s9).toNat)
    case atStart => exact ⟨0, Nat.zero_le _, rfl, bel_refl w3⟩
    case round =>
      obtain ⟨i, hi, rfl, hby⟩ := hrel
      by_cases hil : i < Cs.length
      · obtain ⟨x, hx⟩ : ∃ x, Cs[i]? = some x := ⟨_, List.getElem?_eq_getElem hil⟩
        have HX := Lib.hid hx
        obtain ⟨gx, ox, hAe, hgx, x0, x1⟩ := cl_at hl hx
        subst hAe
        have i0 : (0 : Int) ≤ (i : Int) := by omega
        have i1 : (i : Int) < (Cs.length : Int) := by omega
        clear hx
        go_wp2_with fail
        go_loopw [10, 11] (fun s10 s11 wz => ∃ j : Nat, j ≤ Ls.length ∧ s10 = .bool (hasB row col x (Ls.take j)) ∧ s11 = .int .i64 j ∧ Below w3.heap.size w3 wz) (fun _ s11 _ => Ls.length - (intOf s11).toNat)
        case atStart => exact ⟨0, Nat.zero_le _, rfl, rfl, hby⟩
        case round =>
          obtain ⟨j, hj, rfl, rfl, hbz⟩ := hrel
          have hcz := hc.below hbz
          have hWz := bel_call hW hbz
          by_cases hjl : j < Ls.length
          · obtain ⟨p, hp⟩ : ∃ p, Ls[j]? = some p := ⟨_, List.getElem?_eq_getElem hjl⟩
            obtain ⟨ge, oe, hAe, hge, a0, a1, a2, a3, a4, a5, a6⟩ := edge_at hL hp
            subst hAe
            have hst := hasB_take (row := row) (col := col) (x := x) hp
            have r0 := fun d os => cell_regrown ((hbz.cell hge).trans a0) d os
            have r1 := fun d os => cell_regrown ((hbz.cell hge).trans a1) d os
            have r3 := fun d os => cell_regrown ((hbz.cell hge).trans a3) d os
            have r4 := fun d os => cell_regrown ((hbz.cell hge).trans a4) d os
            have r5 := fun d os => cell_regrown ((hbz.cell hge).trans a5) d os
            have r6 := fun d os => cell_regrown ((hbz.cell hge).trans a6) d os
            have y0 := fun d os => cell_regrown ((hbz.cell hgx).trans x0) d os
            have y1 := fun d os => cell_regrown ((hbz.cell hgx).trans x1) d os
            have gc := hcz.gr
            have hE := fun W => eql_cell W p.row p.col x.row x.col
            have hP := fun W => pin_any p.t p.l p.b p.r row col W
            have j0 : (0 : Int) ≤ (j : Int) := by omega
            have j1 : (j : Int) < (Ls.length : Int) := by omega
            obtain ⟨q, hq⟩ : ∃ q, q = decide ((⟨p.row, p.col⟩ : Cl) = ⟨x.row, x.col⟩) := ⟨_, rfl⟩
            obtain ⟨u, hu⟩ : ∃ u, u = inB p.t p.l p.b p.r row col := ⟨_, rfl⟩
            obtain ⟨v, hv⟩ : ∃ v, v = hasB row col x (Ls.take j) := ⟨_, rfl⟩
            rw [show x = (⟨x.row, x.col⟩ : Cl) from rfl, ← hq, ← hu, ← (show x = (⟨x.row, x.col⟩ : Cl) from rfl), ← hv] at hst
            rw [← hq] at hE
            rw [← hu] at hP
            rw [← hv]
            have HST := Lib.hid hst
            have HP := Lib.hid hP
            clear hst hP hq hu hv a0 a1 a2 a3 a4 a5 a6 hp
            cases v with
            | true =>
              go_wp2_with fail
              refine wp_region_quiet_below (by kernel_rfl) (by kernel_rfl) ?_
              repeat (any_goals (first | go_big_quiet_step ((first | (go_at_call 17; exact Calls.regrown_of (HP.out _)))) | fail))
              refine wpQuiet_nil ?_
              intro w5 hw'
              have hb5 := class_below hw'
              clear hw'
              clear r0 r1 r3 r4 r5 r6 y0 y1 gc hE
              go_wp2_with fail
              go_roundw
              case rel => exact ⟨j + 1, by omega, by rw [HST.out]; rfl, by go_num, bel_call hbz hb5⟩
              case measure => simp [intOf]; omega
            | false =>
              cases q with
              | false =>
                go_wp2_with fail
                refine wp_region_quiet_below (by kernel_rfl) (by kernel_rfl) ?_
                repeat (any_goals (first | go_big_quiet_step ((first | (go_at_call 17; exact Calls.regrown_of (HP.out _)))) | fail))
                refine wpQuiet_nil ?_
                intro w5 hw'
                have hb5 := class_below hw'
                clear hw'
                clear r0 r1 r3 r4 r5 r6 y0 y1 gc hE
                go_wp2_with fail
                go_roundw
                case rel => exact ⟨j + 1, by omega, by rw [HST.out]; rfl, by go_num, bel_call hbz hb5⟩
                case measure => simp [intOf]; omega
              | true =>
                go_wp2_with fail
                refine wp_region_quiet_below (by kernel_rfl) (by kernel_rfl) ?_
                repeat (any_goals (first | go_big_quiet_step ((first | (go_at_call 17; exact Calls.regrown_of (HP.out _)))) | fail))
                refine wpQuiet_nil ?_
                intro w5 hw'
                have hb5 := class_below hw'
                clear hw'
                clear r0 r1 r3 r4 r5 r6 y0 y1 gc hE
                go_wp2_with fail
                go_roundw
                case rel => exact ⟨j + 1, by omega, by rw [HST.out]; cases u <;> rfl, by go_num, bel_call hbz hb5⟩
                case measure => simp [intOf]; omega
          · obtain rfl : j = Ls.length := by omega
            have hhx := hhas.out x (List.mem_of_getElem? HX.out)
            rw [List.take_length, hhx]
            clear hhx
            have j1 : ¬ ((Ls.length : Int) < (Ls.length : Int)) := by omega
            have y0 := fun d os => cell_regrown ((hbz.cell hgx).trans x0) d os
            have y1 := fun d os => cell_regrown ((hbz.cell hgx).trans x1) d os
            by_cases hi0 : i = 0
            · subst hi0
              go_wp2_with fail
              refine wp_region_quiet_below (by kernel_rfl) (by kernel_rfl) ?_
              repeat (any_goals (first | go_big_quiet_step ((first | (go_at_call 18; exact Calls.regrown_of (HP.out _)))) | fail))
              refine wpQuiet_nil ?_
              intro w5 hw'
              have hb5 := class_below hw'
              clear hw'
              clear y0 y1
              go_wp2_with fail
              go_roundw
              case rel => exact ⟨0 + 1, by omega, by go_num, bel_call hbz hb5⟩
              case measure => simp [intOf]; omega
            · obtain ⟨m, hm⟩ : ∃ m, m + 1 = i := ⟨i - 1, by omega⟩
              obtain ⟨y, hy⟩ : ∃ y, Cs[m]? = some y := ⟨_, List.getElem?_eq_getElem (by omega)⟩
              obtain ⟨gy, oy, hAe, hgy, v0, v1⟩ := cl_at hl hy
              injection hAe with hAe
              injection hAe with hAe1 hAe2 _
              subst hAe1 hAe2
              have u0 := fun d os => cell_regrown ((hbz.cell hgx).trans v0) d os
              have u1 := fun d os => cell_regrown ((hbz.cell hgx).trans v1) d os
              have hlt : ltC y x := List.pairwise_iff_getElem.1 HSC.out m i (by omega) hil (by omega) |> fun h => by
                rw [(List.getElem?_eq_some_iff.1 hy).2, (List.getElem?_eq_some_iff.1 HX.out).2] at h
                exact h
              have hP := fun W => pbefore_any y.row y.col x.row x.col W
              rw [bef_of_lt hlt] at hP
              have HP := Lib.hid hP
              have hgt : (0 : Int) < (i : Int) := by omega
              have hgn : 0 < i := by omega
              have hz1 : IntKind.i64.wrap ((i : Int) - 1) = (m : Int) := by rw [IntWalk.i64_in _ (by omega)]; omega
              have m0 : (0 : Int) ≤ (m : Int) := by omega
              have m1 : (m : Int) < (Cs.length : Int) := by omega
              have HM := Lib.hid hm
              clear hm hy hP hlt v0 v1 hi0
              go_wp2_with fail
              refine wp_region_quiet_below (by kernel_rfl) (by kernel_rfl) ?_
              repeat (any_goals (first | go_big_quiet_step ((first | (go_at_call 18; exact Calls.regrown_of (HP.out _)))) | fail))
              refine wpQuiet_nil ?_
              intro w5 hw'
              have hb5 := class_below hw'
              clear hw'
              clear y0 y1 u0 u1
              go_wp2_with fail
              go_roundw
              case rel => exact ⟨i + 1, by omega, by go_num, bel_call hbz hb5⟩
              case measure => simp [intOf]; omega
      · obtain rfl : i = Cs.length := by omega
        have i1 : ¬ ((Cs.length : Int) < (Cs.length : Int)) := by omega
        go_wp2_with fail
        go_loopw [12] (fun s12 wz => ∃ j : Nat, j ≤ Ls.length ∧ s12 = .int .i64 j ∧ Below w3.heap.size w3 wz) (fun s12 _ => Ls.length - (intOf s12).toNat)
        case atStart => exact ⟨0, Nat.zero_le _, rfl, hby⟩
        case round =>
          obtain ⟨j, hj, rfl, hbz⟩ := hrel
          clear hby
          by_cases hjl : j < Ls.length
          · obtain ⟨p, hp⟩ : ∃ p, Ls[j]? = some p := ⟨_, List.getElem?_eq_getElem hjl⟩
            obtain ⟨ge, oe, hAe, hge, a0, a1, a2, a3, a4, a5, a6⟩ := edge_at hL hp
            subst hAe
            have HPM := Lib.hid (List.mem_of_getElem? hp)
            have j0 : (0 : Int) ≤ (j : Int) := by omega
            have j1 : (j : Int) < (Ls.length : Int) := by omega
            clear hp
            go_wp2_with fail
            go_loopw [13, 14] (fun s13 s14 wv => ∃ i : Nat, i ≤ Cs.length ∧ s13 = .bool (toldB p (Cs.take i)) ∧ s14 = .int .i64 i ∧ Below w3.heap.size w3 wv) (fun _ s14 _ => Cs.length - (intOf s14).toNat)
            case atStart => exact ⟨0, Nat.zero_le _, rfl, rfl, hbz⟩
            case round =>
              obtain ⟨i, hi', rfl, rfl, hbv⟩ := hrel
              clear i1
              have r0 := fun d os => cell_regrown ((hbv.cell hge).trans a0) d os
              have r1 := fun d os => cell_regrown ((hbv.cell hge).trans a1) d os
              by_cases hil' : i < Cs.length
              · obtain ⟨x, hx⟩ : ∃ x, Cs[i]? = some x := ⟨_, List.getElem?_eq_getElem hil'⟩
                obtain ⟨gx, ox, hAe, hgx, x0, x1⟩ := cl_at hl hx
                subst hAe
                have hst := toldB_take (p := p) hx
                have y0 := fun d os => cell_regrown ((hbv.cell hgx).trans x0) d os
                have y1 := fun d os => cell_regrown ((hbv.cell hgx).trans x1) d os
                have hE := fun W => eql_cell W x.row x.col p.row p.col
                have i0 : (0 : Int) ≤ (i : Int) := by omega
                have i1 : (i : Int) < (Cs.length : Int) := by omega
                obtain ⟨q, hq⟩ : ∃ q, q = decide ((⟨x.row, x.col⟩ : Cl) = ⟨p.row, p.col⟩) := ⟨_, rfl⟩
                obtain ⟨v, hv⟩ : ∃ v, v = toldB p (Cs.take i) := ⟨_, rfl⟩
                rw [show x = (⟨x.row, x.col⟩ : Cl) from rfl, ← hq, ← hv] at hst
                rw [← hq] at hE
                rw [← hv]
                have HST := Lib.hid hst
                clear hst hq hv hx x0 x1
                cases v with
                | true =>
                  go_wp2_with fail
                  refine wp_region_quiet_below (by kernel_rfl) (by kernel_rfl) ?_
                  repeat (any_goals (first | go_big_quiet_step ((first | fail)) | fail))
                  refine wpQuiet_nil ?_
                  intro w5 hw'
                  have hb5 := class_below hw'
                  clear hw'
                  clear r0 r1 y0 y1 hE
                  go_wp2_with fail
                  go_roundw
                  case rel => exact ⟨i + 1, by omega, by rw [HST.out]; rfl, by go_num, bel_call hbv hb5⟩
                  case measure => simp [intOf]; omega
                | false =>
                  go_wp2_with fail
                  refine wp_region_quiet_below (by kernel_rfl) (by kernel_rfl) ?_
                  repeat (any_goals (first | go_big_quiet_step ((first | fail)) | fail))
                  refine wpQuiet_nil ?_
                  intro w5 hw'
                  have hb5 := class_below hw'
                  clear hw'
                  clear r0 r1 y0 y1 hE
                  go_wp2_with fail
                  go_roundw
                  case rel => exact ⟨i + 1, by omega, by rw [HST.out]; rfl, by go_num, bel_call hbv hb5⟩
                  case measure => simp [intOf]; omega
              · obtain rfl : i = Cs.length := by omega
                have i1 : ¬ ((Cs.length : Int) < (Cs.length : Int)) := by omega
                rw [List.take_length]
                have r3 := fun d os => cell_regrown ((hbv.cell hge).trans a3) d os
                have r4 := fun d os => cell_regrown ((hbv.cell hge).trans a4) d os
                have r5 := fun d os => cell_regrown ((hbv.cell hge).trans a5) d os
                have r6 := fun d os => cell_regrown ((hbv.cell hge).trans a6) d os
                have hcz := hc.below hbv
                have gc := hcz.gr
                have hP := fun W => pin_any p.t p.l p.b p.r row col W
                have ht := htold.out p HPM.out
                obtain ⟨u, hu⟩ : ∃ u, u = inB p.t p.l p.b p.r row col := ⟨_, rfl⟩
                rw [← hu] at hP ht
                have HP := Lib.hid hP
                clear hP hu
                cases u with
                | true =>
                  rw [ht rfl]
                  clear ht
                  go_wp2_with fail
                  refine wp_region_quiet_below (by kernel_rfl) (by kernel_rfl) ?_
                  repeat (any_goals (first | go_big_quiet_step ((first | (go_at_call 17; exact Calls.regrown_of (HP.out _)))) | fail))
                  refine wpQuiet_nil ?_
                  intro w5 hw'
                  have hb5 := class_below hw'
                  clear hw'
                  clear r0 r1 r3 r4 r5 r6 gc
                  go_wp2_with fail
                  go_roundw
                  case rel => exact ⟨j + 1, by omega, by go_num, bel_call hbv hb5⟩
                  case measure => simp [intOf]; omega
                | false =>
                  clear ht
                  go_wp2_with fail
                  refine wp_region_quiet_below (by kernel_rfl) (by kernel_rfl) ?_
                  repeat (any_goals (first | go_big_quiet_step ((first | (go_at_call 17; exact Calls.regrown_of (HP.out _)))) | fail))
                  refine wpQuiet_nil ?_
                  intro w5 hw'
                  have hb5 := class_below hw'
                  clear hw'
                  clear r0 r1 r3 r4 r5 r6 gc
                  go_wp2_with fail
                  go_roundw
                  case rel => exact ⟨j + 1, by omega, by go_num, bel_call hbv hb5⟩
                  case measure => simp [intOf]; omega
          · obtain rfl : j = Ls.length := by omega
            have j1 : ¬ ((Ls.length : Int) < (Ls.length : Int)) := by omega
            go_wp2_with fail
            go_ret
            exact ⟨rfl, bel_call hW hbz⟩
end Go.Proofs.Ytgmojgchbgmkeaa

/-
  Deps: the walk of DepsLast. Conditions: the deeds lie as said; they hold no more than the bound.
-/
import Derived.Test.YtpgnebhlnkoajaaDChar
namespace Go.Proofs.Ytpgnebhlnkoajaa
open Go.ChangeShapes Go.WideShapes Go.ChangeAt Go.RowKit Go.Deep
attribute [local go_sem] Cls

set_option maxHeartbeats 6400000 in
set_option maxRecDepth 100000 in
theorem depsLast_walk (A : Option Addr) (cap : Nat) (D : List DdV) (w : World) (hS : DeedsAt w A D) (htot : tot D ≤ 1048576) :
    Calls Try.prog 5 #[.slice A D.length cap] w fun e w' => e = .returned (.bool true) ∧ Below w.heap.size w w' := by
  have hDl := tot_len D
  go_enter Try.func5, Try.ntmps5
  go_wp2_with fail
  refine (ds_new _).mono ?_
  rintro e w1 ⟨da, Oa0, rfl, hPa0, hOa0, hb1⟩
  have hB0 := hb1
  clear hb1
  go_wp2_with fail
  refine (ds_new _).mono ?_
  rintro e w2 ⟨db, Ob, rfl, hPb0, hOb0, hb1⟩
  have hAB0 : ∀ z, Oa0 z → ¬ Ob z := fun z hz hz' => by have := hPa0.lt z hz; have := hOb0 z hz'; omega
  have hOb : ∀ z, Ob z → w.heap.size ≤ z := fun z hz => by have := hOb0 z hz; have := hB0.size; omega
  replace hB0 := bel_call hB0 hb1
  replace hPa0 := hPa0.below hb1
  clear hb1 hOb0
  go_wp2_with fail
  go_loopw [5] (fun s5 wr => ∃ (k : Nat) (Oa : Nat → Prop) (Ea : List Ed), k ≤ D.length ∧ s5 = .int .i64 k ∧ DS wr da (2 * tot (D.take k)) Oa Ea ∧ DS wr db 0 Ob [] ∧ (∀ z, Oa z → ¬ Ob z) ∧ (∀ z, Oa z → w.heap.size ≤ z) ∧ Hid (∀ e, e ∈ Ea ↔ chS D (fun _ => True) k e) ∧ Below w.heap.size w wr) (fun s5 _ => D.length - (intOf s5).toNat)
  case atStart => exact ⟨0, Oa0, [], Nat.zero_le _, rfl, hPa0, hPb0, hAB0, hOa0, Lib.hid (fun e => ⟨fun h => (by cases h), fun h => absurd h (chS_zero _ _ _)⟩), hB0⟩
  case round =>
    obtain ⟨k, Oa, Ea, hk, rfl, hPx, hPb, hAB, hOx, HCA, hW⟩ := hrel
    clear hPa0 hPb0 hAB0 hOa0 hB0
    by_cases hkl : k < D.length
    · obtain ⟨d, hd⟩ : ∃ d, D[k]? = some d := ⟨_, List.getElem?_eq_getElem hkl⟩
      obtain ⟨b1, o1, hA1, hb1, ⟨c0, c1, c2⟩, hLi, _⟩ := hS k d hd
      subst hA1
      replace c0 := (hW.cell hb1).trans c0
      replace c1 := (hW.cell hb1).trans c1
      replace c2 := (hW.cell hb1).trans c2
      have htk := tot_take hd
      have htl := tot_le D (k + 1)
      have HC2 : Hid (∀ e, e ∈ setD (cD d) d.L Ea ↔ chS D (fun _ => True) (k + 1) e) := Lib.hid (chS_step hPx.srt hd trivial HCA.out)
      have i0 : (0 : Int) ≤ (k : Int) := by omega
      have i1 : (k : Int) < (D.length : Int) := by omega
      clear hd
      go_wp2_with fail
      go_still_tail 11, (by kernel_rfl)
      go_wp2_with fail
      refine (ds_set da _ Oa Ea d.row d.col d.L d.A d.cap _ (hPx.below (bel_drew (bel_refl wr))) (hLi.below (bel_drew hW)) (fun x hx b off hb hz => by
        have h1 := lies_lt hLi hx hb
        have h2 := hOx b hz
        omega) (by omega)).mono ?_
      rintro e w4 ⟨O4, rfl, hP4, hF4, hO4⟩
      have hW4 := hF4.bel (bel_drew hW) (fun z hz => hOx z hz)
      have hPb4 := (hPb.below (bel_drew (bel_refl wr))).frm hF4 (fun z hz hz' => hAB z hz' hz)
      have hAB4 : ∀ z, O4 z → ¬ Ob z := fun z hz hz' => (hO4 z hz).elim (fun h => hAB z h hz') (fun h => by have := hPb.lt z hz'; have h9 : wr.heap.size ≤ z := h; omega)
      have hO4' : ∀ z, O4 z → w.heap.size ≤ z := fun z hz => (hO4 z hz).elim (hOx z) (fun h => Nat.le_trans hW.size h)
      have hP5 := hP4.mono (N' := 2 * tot (D.take (k + 1))) (by omega)
      clear hP4 htk htl
      go_wp2_with fail
      go_roundw
      case rel => exact ⟨k + 1, O4, _, by omega, by go_num, hP5, hPb4, hAB4, hO4', HC2, hW4⟩
      case measure => simp [intOf]; omega
    obtain rfl : k = D.length := by omega
    rw [List.take_length] at hPx
    have i1 : ¬ ((D.length : Int) < (D.length : Int)) := by omega
    have hPa0 := hPx
    have hPb0 := hPb
    have hAB0 := hAB
    have hOb0 := hOb
    have hB0 := hW
    have HCAA := HCA
    clear hPx hPb hAB hW hOb hkl HCA
    go_wp2_with fail
    go_loopw [6] (fun s6 wr => ∃ (k : Nat) (Ob : Nat → Prop) (Eb : List Ed), k ≤ D.length ∧ s6 = .int .i64 k ∧ DS wr da (2 * tot D) Oa Ea ∧ DS wr db (2 * tot (D.take k)) Ob Eb ∧ (∀ z, Oa z → ¬ Ob z) ∧ (∀ z, Ob z → w.heap.size ≤ z) ∧ Hid (∀ e, e ∈ Eb ↔ chS D (fun i => ¬ lateD D i) k e) ∧ Below w.heap.size w wr) (fun s6 _ => D.length - (intOf s6).toNat)
    case atStart => exact ⟨0, Ob, [], Nat.zero_le _, rfl, hPa0, hPb0, hAB0, hOb0, Lib.hid (fun e => ⟨fun h => (by cases h), fun h => absurd h (chS_zero _ _ _)⟩), hB0⟩
    case round =>
      obtain ⟨k, Ob, Eb, hk, rfl, hPa, hPx, hAB, hOb, HCB, hW⟩ := hrel
      clear hPa0 hPb0 hAB0 hOb0 hB0 i1
      by_cases hkl : k < D.length
      · obtain ⟨d, hd⟩ : ∃ d, D[k]? = some d := ⟨_, List.getElem?_eq_getElem hkl⟩
        obtain ⟨b1, o1, hA1, hb1, ⟨c0, c1, c2⟩, hLi, _⟩ := hS k d hd
        subst hA1
        have htk := tot_take hd
        have htl := tot_le D (k + 1)
        have HC2 : Hid (∀ e, e ∈ setD (cD d) d.L Eb ↔ (¬ lateD D k → chS D (fun i => ¬ lateD D i) (k + 1) e) ∧ (lateD D k → e ∈ setD (cD d) d.L Eb)) := Lib.hid (fun e => by
          by_cases hl : lateD D k
          · exact ⟨fun h => ⟨fun h1 => absurd hl h1, fun _ => h⟩, fun h => h.2 hl⟩
          · rw [chS_step (P := fun i => ¬ lateD D i) hPx.srt hd hl HCB.out e]
            exact ⟨fun h => ⟨fun _ => h, fun h1 => absurd h1 hl⟩, fun h => h.1 hl⟩)
        have HD := Lib.hid hd
        have i0 : (0 : Int) ≤ (k : Int) := by omega
        have i1 : (k : Int) < (D.length : Int) := by omega
        have hz0 : IntKind.i64.wrap ((k : Int) + 1) = ((k + 1 : Nat) : Int) := by rw [IntWalk.i64_in _ (by omega)]; omega
        clear hd
        go_wp2_with fail
        generalize hw0 : wr = w0 at hPa hPx hW
        have hbb := bel_refl w0
        clear hw0
        go_loopw [7, 8] (fun s7 s8 wr => ∃ (j : Nat) (v : Bool), k < j ∧ j ≤ D.length ∧ s7 = .bool v ∧ s8 = .int .i64 j ∧ Hid (v = true ↔ ∃ i d', k < i ∧ i < j ∧ D[i]? = some d' ∧ cD d' = cD d ∧ setE (cD d') d'.L = 0) ∧ Below w0.heap.size w0 wr) (fun _ s8 _ => D.length - (intOf s8).toNat)
        case atStart => exact ⟨k + 1, false, by omega, by omega, rfl, by first | rfl | go_num, Lib.hid ⟨fun h => (by cases h), fun ⟨i, _, h1, h2, _⟩ => by omega⟩, hbb⟩
        case round =>
          obtain ⟨j, v, hkj, hj, rfl, rfl, HV, hb0⟩ := hrel
          clear hbb hz0
          have hW0 := bel_call hW hb0
          replace c0 := (hW0.cell hb1).trans c0
          replace c1 := (hW0.cell hb1).trans c1
          by_cases hjl : j < D.length
          · obtain ⟨d2, hd2⟩ : ∃ d2, D[j]? = some d2 := ⟨_, List.getElem?_eq_getElem hjl⟩
            obtain ⟨b2, o2, hA2, hb2, ⟨e0, e1, e2⟩, hLi2, _⟩ := hS j d2 hd2
            injection hA2 with hA2
            injection hA2 with hA21 hA22 _
            subst hA21 hA22
            replace e0 := (hW0.cell hb1).trans e0
            replace e1 := (hW0.cell hb1).trans e1
            replace e2 := (hW0.cell hb1).trans e2
            have htk2 := tot_take hd2
            have htl2 := tot_le D (j + 1)
            have j0 : (0 : Int) ≤ (j : Int) := by omega
            have j1 : (j : Int) < (D.length : Int) := by omega
            go_wp2_with fail
            refine (ds_new _).mono ?_
            rintro e w5 ⟨dt, Ot, rfl, hPt, hOt, hb5⟩
            have hE := fun W => eql_cell W d2.row d2.col d.row d.col
            obtain ⟨q, hq⟩ : ∃ q, q = decide ((⟨d2.row, d2.col⟩ : Cl) = ⟨d.row, d.col⟩) := ⟨_, rfl⟩
            rw [← hq] at hE
            have HQ := Lib.hid hq
            have HD2 := Lib.hid hd2
            clear hq hd2
            go_wp2_with fail
            cases q with
            | false =>
              have hbw : b1 < wr.heap.size := Nat.lt_of_lt_of_le hb1 hW0.size
              have q0 := fun dd os => cell_regrown ((hb5.cell (p := ⟨b1, o1 + k * 3, none⟩) hbw).trans c0) dd os
              have q1 := fun dd os => cell_regrown ((hb5.cell (p := ⟨b1, o1 + k * 3 + 1, none⟩) hbw).trans c1) dd os
              have r0 := fun dd os => cell_regrown ((hb5.cell (p := ⟨b1, o1 + j * 3, none⟩) hbw).trans e0) dd os
              have r1 := fun dd os => cell_regrown ((hb5.cell (p := ⟨b1, o1 + j * 3 + 1, none⟩) hbw).trans e1) dd os
              refine wp_region_quiet_below (by kernel_rfl) (by kernel_rfl) ?_
              repeat (any_goals (first | go_big_quiet_step ((fail)) | fail))
              refine wpQuiet_nil ?_
              intro w6 hw'
              have hb66 := class_below hw'
              clear hw'
              have HV2 : Hid (v = true ↔ ∃ i d', k < i ∧ i < j + 1 ∧ D[i]? = some d' ∧ cD d' = cD d ∧ setE (cD d') d'.L = 0) := Lib.hid (by
                rw [HV.out]
                constructor
                · rintro ⟨i, d', h1, h2, h3⟩
                  exact ⟨i, d', h1, by omega, h3⟩
                · rintro ⟨i, d', h1, h2, h3, h4, h5⟩
                  rcases Nat.lt_succ_iff_lt_or_eq.1 h2 with h6 | rfl
                  · exact ⟨i, d', h1, h6, h3, h4, h5⟩
                  · rw [HD2.out] at h3
                    injection h3 with h3
                    subst h3
                    exact absurd h4 (of_decide_eq_false HQ.out.symm))
              have hb6 := bel_call (bel_call hb0 hb5) hb66
              clear q0 q1 r0 r1 hE e0 e1 e2
              go_wp2_with fail
              go_roundw
              case rel => exact ⟨j + 1, v, by omega, by omega, rfl, by go_num, HV2, hb6⟩
              case measure => simp [intOf]; omega
            | true =>
              obtain ⟨S, hSS⟩ : ∃ S : World → Prop, S = fun w' => ∀ o, w'.cell? ⟨b1, o, none⟩ = wr.cell? ⟨b1, o, none⟩ := ⟨_, rfl⟩
              have q0 := fun x => (held_of hSS x (o1 + k * 3)).trans c0
              have q1 := fun x => (held_of hSS x (o1 + k * 3 + 1)).trans c1
              have r0 := fun x => (held_of hSS x (o1 + j * 3)).trans e0
              have r1 := fun x => (held_of hSS x (o1 + j * 3 + 1)).trans e1
              have r2 := fun x => (held_of hSS x (o1 + j * 3 + 2)).trans e2
              have HSS := Lib.hid hSS
              have hbw : b1 < wr.heap.size := Nat.lt_of_lt_of_le hb1 hW0.size
              have hS0 : S w5.drew := held_in HSS.out (fun o => hb5.cell (p := ⟨b1, o, none⟩) hbw)
              haveI : Nonempty (Held S) := ⟨⟨_, hS0⟩⟩
              clear hSS
              refine wp_region_tree (S := S) 26 (.q 0 <| .q 1 <| .q 2 <| .q 3 <| .q 4 <| .q 5 <| .q 6 <| .q 7 <| .q 8 <| .q 9 <| .q 10 <| .q 11 <| .q 12 <| .q 13 <| .q 14 <| .q 15 <| .q 16 <| .q 17 <| .q 18 <| .q 19 <| .q 20 <| .q 21 <| .q 22 <| .a 23 <| .q 24 <| .q 25 <| .done) [] (by kernel_rfl) (by kernel_rfl) hS0 ?_
              repeat (first | (refine tree_q (by rfl) (by rfl) (fun K hK => ?_); go_simp; refine hK _ ?_; clear hK K) | (refine tree_qg (by rfl) (by rfl) (by rfl) (fun K hK => ?_); go_simp; refine hK _ ?_; clear hK K) | (refine tree_qn (by rfl) (by rfl) (by rfl) rfl ?_; go_simp))
              refine tree_ag (by rfl) (by rfl) (by rfl) (fun K hK => ?_)
              go_simp
              refine (ds_set dt _ Ot [] d2.row d2.col d2.L d2.A d2.cap _ (hPt.below (bel_drew (bel_refl w5))) (hLi2.below (bel_drew (bel_call hW0 hb5))) (fun x hx b off hb hz => by
                have h1 := lies_lt hLi2 hx hb
                have h2 := hOt b hz
                have h3 := hW0.size
                omega) (by omega)).mono ?_
              rintro e w6 ⟨O6, rfl, _, hF6, _⟩
              have hb6 := hF6.bel (bel_drew hb5) (fun z hz => hOt z hz)
              refine hK _ _ (held_in HSS.out (fun o => hb6.cell (p := ⟨b1, o, none⟩) hbw)) ?_
              clear hK K
              obtain ⟨er, her⟩ : ∃ er, er = setE (cD d2) d2.L := ⟨_, rfl⟩
              rw [show setE ⟨d2.row, d2.col⟩ d2.L = er from her.symm]
              have HER := Lib.hid her
              clear her
              have hb7 := bel_call hb0 hb6
              by_cases h0 : er = 0
              · subst h0
                repeat (first | (refine tree_q (by rfl) (by rfl) (fun K hK => ?_); go_simp; refine hK _ ?_; clear hK K) | (refine tree_qg (by rfl) (by rfl) (by rfl) (fun K hK => ?_); go_simp; refine hK _ ?_; clear hK K) | (refine tree_qn (by rfl) (by rfl) (by rfl) rfl ?_; go_simp))
                refine tree_nil ?_
                have HV2 : Hid (true = true ↔ ∃ i d', k < i ∧ i < j + 1 ∧ D[i]? = some d' ∧ cD d' = cD d ∧ setE (cD d') d'.L = 0) := Lib.hid ⟨fun _ => ⟨j, d2, hkj, Nat.lt_succ_self _, HD2.out, of_decide_eq_true HQ.out.symm, HER.out.symm⟩, fun _ => rfl⟩
                clear q0 q1 r0 r1 r2 hS0 HSS hE e0 e1 e2
                go_wp2_with fail
                go_roundw
                case rel => exact ⟨j + 1, true, by omega, by omega, rfl, by go_num, HV2, hb7⟩
                case measure => simp [intOf]; omega
              · have b0 : (er == 0) = false := by rw [beq_eq_false_iff_ne]; exact h0
                have HV2 : Hid (v = true ↔ ∃ i d', k < i ∧ i < j + 1 ∧ D[i]? = some d' ∧ cD d' = cD d ∧ setE (cD d') d'.L = 0) := Lib.hid (by
                  rw [HV.out]
                  constructor
                  · rintro ⟨i, d', h1, h2, h3⟩
                    exact ⟨i, d', h1, by omega, h3⟩
                  · rintro ⟨i, d', h1, h2, h3, h4, h5⟩
                    rcases Nat.lt_succ_iff_lt_or_eq.1 h2 with h6 | rfl
                    · exact ⟨i, d', h1, h6, h3, h4, h5⟩
                    · rw [HD2.out] at h3
                      injection h3 with h3
                      subst h3
                      exact absurd (HER.out.trans h5) h0)
                clear h0
                repeat (first | (refine tree_q (by rfl) (by rfl) (fun K hK => ?_); go_simp; refine hK _ ?_; clear hK K) | (refine tree_qg (by rfl) (by rfl) (by rfl) (fun K hK => ?_); go_simp; refine hK _ ?_; clear hK K) | (refine tree_qn (by rfl) (by rfl) (by rfl) rfl ?_; go_simp))
                refine tree_nil ?_
                clear q0 q1 r0 r1 r2 hS0 HSS hE e0 e1 e2
                go_wp2_with fail
                go_roundw
                case rel => exact ⟨j + 1, v, by omega, by omega, rfl, by go_num, HV2, hb7⟩
                case measure => simp [intOf]; omega
          · obtain rfl : j = D.length := by omega
            have j1 : ¬ ((D.length : Int) < (D.length : Int)) := by omega
            have HLT : Hid (v = true ↔ lateD D k) := Lib.hid (by
              rw [HV.out]
              constructor
              · rintro ⟨i, d', h1, h2, h3, h4, h5⟩
                exact ⟨i, d, d', h1, HD.out, h3, h4, h5⟩
              · rintro ⟨i, d1, d', h1, h2, h3, h4, h5⟩
                rw [HD.out] at h2
                injection h2 with h2
                subst h2
                exact ⟨i, d', h1, (List.getElem?_eq_some_iff.1 h3).1, h3, h4, h5⟩)
            have hPa2 := hPa.below hb0
            have hPx2 := hPx.below hb0
            clear hPa hPx hjl HV
            have hPa := hPa2
            have hPx := hPx2
            have hW := hW0
            have hOx := hOb
            clear hPa2 hPx2
            cases v with
            | true =>
              have HCN : Hid (∀ e, e ∈ Eb ↔ chS D (fun i => ¬ lateD D i) (k + 1) e) := Lib.hid (fun e => by rw [chS_skip (by simpa using HLT.out.1 rfl) e]; exact HCB.out e)
              have hP5 := hPx.mono (N' := 2 * tot (D.take (k + 1))) (by omega)
              clear htk htl
              go_wp2_with fail
              go_roundw
              case rel => exact ⟨k + 1, Ob, Eb, by omega, by go_num, hPa, hP5, hAB, hOb, HCN, hW⟩
              case measure => simp [intOf]; omega
            | false =>
              have hnl : ¬ lateD D k := fun h => by have := HLT.out.2 h; cases this
              have HCN : Hid (∀ e, e ∈ setD (cD d) d.L Eb ↔ chS D (fun i => ¬ lateD D i) (k + 1) e) := Lib.hid (fun e => by
                rw [HC2.out e]
                exact ⟨fun h => h.1 hnl, fun h => ⟨fun _ => h, fun h1 => absurd h1 hnl⟩⟩)
              replace c2 := (hW.cell hb1).trans c2
              go_wp2_with fail
              go_still_tail 11, (by kernel_rfl)
              go_wp2_with fail
              refine (ds_set db _ Ob Eb d.row d.col d.L d.A d.cap _ (hPx.below (bel_drew (bel_refl wr))) (hLi.below (bel_drew hW)) (fun x hx b off hb hz => by
                have h1 := lies_lt hLi hx hb
                have h2 := hOx b hz
                omega) (by omega)).mono ?_
              rintro e w4 ⟨O4, rfl, hP4, hF4, hO4⟩
              have hW4 := hF4.bel (bel_drew hW) (fun z hz => hOx z hz)
              have hPa4 := (hPa.below (bel_drew (bel_refl wr))).frm hF4 (fun z hz hz' => hAB z hz hz')
              have hAB4 : ∀ z, Oa z → ¬ O4 z := fun z hz hz' => (hO4 z hz').elim (fun h => hAB z hz h) (fun h => by have := hPa.lt z hz; have h9 : wr.heap.size ≤ z := h; omega)
              have hO4' : ∀ z, O4 z → w.heap.size ≤ z := fun z hz => (hO4 z hz).elim (hOx z) (fun h => Nat.le_trans hW.size h)
              have hP5 := hP4.mono (N' := 2 * tot (D.take (k + 1))) (by omega)
              clear hP4 htk htl
              go_wp2_with fail
              go_roundw
              case rel => exact ⟨k + 1, O4, _, by omega, by go_num, hPa4, hP5, hAB4, hO4', HCN, hW4⟩
              case measure => simp [intOf]; omega
      · obtain rfl : k = D.length := by omega
        rw [List.take_length] at hPx
        obtain rfl : Ea = Eb := srte_ext hPa.srt hPx.srt (fun e => by rw [HCAA.out e, HCB.out e]; exact chS_last D e)
        have i1 : ¬ ((D.length : Int) < (D.length : Int)) := by omega
        have hEl := hPa.len
        go_wp2_with fail
        refine (ds_edges da _ Oa Ea _ hPa (by omega)).mono ?_
        rintro e w3 ⟨v5, rfl, hL, hb3⟩
        obtain ⟨A5, c5, rfl, _, _, hL, _⟩ := hL.see
        replace hPx := hPx.below hb3
        replace hW := bel_call hW hb3
        clear hb3
        go_wp2_with fail
        refine (ds_edges db _ Ob Ea _ hPx (by omega)).mono ?_
        rintro e w4 ⟨v6, rfl, hL2, hb4⟩
        obtain ⟨A6, c6, rfl, _, _, hL2, _⟩ := hL2.see
        replace hL := hL.below hb4
        replace hW := bel_call hW hb4
        clear hb4
        go_wp2_with fail
        refine (dedges_same Ea A5 A6 c5 c6 _ hL hL2 (by omega)).mono ?_
        rintro e w5 ⟨rfl, hb5⟩
        replace hW := bel_call hW hb5
        clear hb5
        go_wp2_with fail
        refine (dlives_any _).mono ?_
        rintro e w9 ⟨rfl, hb9⟩
        have hW9 := bel_call hW hb9
        clear hb9
        go_wp2_with fail
        go_ret
        exact ⟨rfl, hW9⟩
end Go.Proofs.Ytpgnebhlnkoajaa

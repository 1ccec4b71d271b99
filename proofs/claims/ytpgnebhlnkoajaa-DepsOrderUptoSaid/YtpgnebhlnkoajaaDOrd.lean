/-
  Deps: the walk of DepsOrder. Conditions: the deeds lie as said; they hold no more than the bound.
-/
import Derived.Test.YtpgnebhlnkoajaaDOwn
namespace Go.Proofs.Ytpgnebhlnkoajaa
open Go.ChangeShapes Go.WideShapes Go.ChangeAt Go.RowKit Go.Deep
attribute [local go_sem] Cls

theorem drs_len (row col : Int) : ∀ (L : List Ed) (out : List Cl), (L.foldl (fun o e => ovS row col o (toP e)) out).length ≤ out.length + L.length
  | [], out => by simp
  | p :: L, out => by
    have h := drs_len row col L (ovS row col out (toP p))
    have h2 : (ovS row col out (toP p)).length ≤ out.length + 1 := by
      unfold ovS
      split
      · simp
      · omega
    rw [List.foldl_cons, List.length_cons]
    omega
set_option maxHeartbeats 6400000 in
set_option maxRecDepth 100000 in
theorem depsOrder_walk (A : Option Addr) (cap : Nat) (D : List DdV) (row col : Int) (w : World) (hS : DeedsAt w A D) (htot : tot D ≤ 1048576) (hrc : rngC ⟨row, col⟩) :
    Calls Try.prog 8 #[.slice A D.length cap, .agg #[.int .i64 row, .int .i64 col]] w fun e w' => e = .returned (.bool true) ∧ Below w.heap.size w w' := by
  have HRC := Lib.hid hrc
  have hDl := tot_len D
  clear hrc
  go_enter Try.func8, Try.ntmps8
  go_wp2_with fail
  have hc0 := Blk.new w rfl 33 #[.int .i64 row, .int .i64 col]
  have hB0 := bel_alloc (bel_refl w) (.cells #[.int .i64 row, .int .i64 col] 33)
  refine (ds_new _).mono ?_
  rintro e w1 ⟨da, Oa, rfl, hPa0, hOa0, hb1⟩
  have hOa : ∀ z, Oa z → w.heap.size < z := fun z hz => by have := hOa0 z hz; simp at this; omega
  replace hc0 := hc0.below hb1
  replace hB0 := bel_call hB0 hb1
  clear hb1 hOa0
  go_wp2_with fail
  refine (ds_new _).mono ?_
  rintro e w2 ⟨db, Ob, rfl, hPb0, hOb0, hb1⟩
  have hAB : ∀ z, Oa z → ¬ Ob z := fun z hz hz' => by have := hPa0.lt z hz; have := hOb0 z hz'; omega
  have hOb : ∀ z, Ob z → w.heap.size < z := fun z hz => by have := hOb0 z hz; have := hc0.lt; omega
  replace hB0 := bel_call hB0 hb1
  replace hc0 := hc0.below hb1
  replace hPa0 := hPa0.below hb1
  have hw02 := hc0.lt
  clear hb1 hOb0
  go_wp2_with fail
  go_loopw [7, 8] (fun s7 s8 wr => ∃ k : Nat, k ≤ D.length ∧ s8 = .int .i64 k ∧ OL KW wr w2.heap.size s7 (fstD (D.take k)) ∧ Below w2.heap.size w2 wr) (fun _ s8 _ => D.length - (intOf s8).toNat)
  case atStart => exact ⟨0, Nat.zero_le _, rfl, OL.nil _ _, bel_refl w2⟩
  case round =>
    obtain ⟨k, hk, rfl, hO, hI⟩ := hrel
    have hW := bel_call hB0 hI
    have hft := (fst_from (D.take k) []).2.2
    have htl0 := tot_le D k
    have hol : (fstD (D.take k)).length ≤ 1048576 := by have := tot_len (fstD (D.take k)); unfold fstD at *; simp only [tot, List.map_nil, List.sum_nil] at *; omega
    clear hft htl0
    by_cases hkl : k < D.length
    · obtain ⟨d, hd⟩ : ∃ d, D[k]? = some d := ⟨_, List.getElem?_eq_getElem hkl⟩
      obtain ⟨b1, o1, hA1, hb1, ⟨c0, c1, c2⟩, hLi, _⟩ := hS k d hd
      subst hA1
      have hft := fst_take hd
      obtain ⟨ow, how⟩ : ∃ ow, ow = fstD (D.take k) := ⟨_, rfl⟩
      rw [← how] at hO hft hol
      have HFT := Lib.hid hft
      have i0 : (0 : Int) ≤ (k : Int) := by omega
      have i1 : (k : Int) < (D.length : Int) := by omega
      obtain ⟨A3, c3, rfl, hc3, hcm3, hl3, hA3⟩ := hO.see
      clear hd how hft
      go_wp2_with fail
      generalize hw0 : wr = w0 at hO hI hW hl3
      have hbb := bel_refl w0
      clear hw0
      go_loopw [9, 10] (fun s9 s10 wr => ∃ j : Nat, j ≤ ow.length ∧ s9 = .bool (seenB d (ow.take j)) ∧ s10 = .int .i64 j ∧ Below w0.heap.size w0 wr) (fun _ s10 _ => ow.length - (intOf s10).toNat)
      case atStart => exact ⟨0, Nat.zero_le _, rfl, rfl, hbb⟩
      case round =>
        obtain ⟨j, hj, rfl, rfl, hb0⟩ := hrel
        clear hbb
        have hW0 := bel_call hW hb0
        replace c0 := (hW0.cell hb1).trans c0
        replace c1 := (hW0.cell hb1).trans c1
        replace c2 := (hW0.cell hb1).trans c2
        by_cases hjl : j < ow.length
        · obtain ⟨x, hx⟩ : ∃ x, ow[j]? = some x := ⟨_, List.getElem?_eq_getElem hjl⟩
          obtain ⟨gx, ox, hAe, hgx, x0, x1, x2⟩ := dd_at (hl3.below hb0) hx
          subst hAe
          have hst := seen_take (d := d) hx
          have q0 := fun dd os => cell_regrown c0 dd os
          have q1 := fun dd os => cell_regrown c1 dd os
          have y0 := fun dd os => cell_regrown x0 dd os
          have y1 := fun dd os => cell_regrown x1 dd os
          have hE := fun W => eql_cell W x.row x.col d.row d.col
          have j0 : (0 : Int) ≤ (j : Int) := by omega
          have j1 : (j : Int) < (ow.length : Int) := by omega
          obtain ⟨q, hq⟩ : ∃ q, q = decide (cD x = cD d) := ⟨_, rfl⟩
          have hq2 : decide ((⟨x.row, x.col⟩ : Cl) = ⟨d.row, d.col⟩) = q := hq.symm
          obtain ⟨v, hv⟩ : ∃ v, v = seenB d (ow.take j) := ⟨_, rfl⟩
          rw [← hq, ← hv] at hst
          rw [hq2] at hE
          rw [← hv]
          have HST := Lib.hid hst
          clear hst hq hq2 hv hx x0 x1 x2
          cases v with
          | true =>
            go_wp2_with fail
            refine wp_region_quiet_below (by kernel_rfl) (by kernel_rfl) ?_
            repeat (any_goals (first | go_big_quiet_step ((fail)) | fail))
            refine wpQuiet_nil ?_
            intro w5 hw'
            have hb5 := class_below hw'
            clear hw'
            clear q0 q1 y0 y1 hE
            go_wp2_with fail
            go_roundw
            case rel => exact ⟨j + 1, by omega, by rw [HST.out]; rfl, by go_num, bel_call hb0 hb5⟩
            case measure => simp [intOf]; omega
          | false =>
            go_wp2_with fail
            refine wp_region_quiet_below (by kernel_rfl) (by kernel_rfl) ?_
            repeat (any_goals (first | go_big_quiet_step ((fail)) | fail))
            refine wpQuiet_nil ?_
            intro w5 hw'
            have hb5 := class_below hw'
            clear hw'
            clear q0 q1 y0 y1 hE
            go_wp2_with fail
            go_roundw
            case rel => exact ⟨j + 1, by omega, by rw [HST.out]; rfl, by go_num, bel_call hb0 hb5⟩
            case measure => simp [intOf]; omega
        · obtain rfl : j = ow.length := by omega
          rw [List.take_length]
          have j1 : ¬ ((ow.length : Int) < (ow.length : Int)) := by omega
          have hO1 := hO.below hb0
          have hI1 := bel_call hI hb0
          cases hv : seenB d ow with
          | true =>
            have HF2 : Hid (fstD (D.take (k + 1)) = ow) := Lib.hid (by rw [HFT.out]; exact if_pos hv)
            clear hv
            go_wp2_with fail
            go_roundw
            case rel => exact ⟨k + 1, by omega, by go_num, by rw [HF2.out]; exact hO1, hI1⟩
            case measure => simp [intOf]; omega
          | false =>
            have HF2 : Hid (fstD (D.take (k + 1)) = ow ++ [d]) := Lib.hid (by rw [HFT.out]; exact if_neg (by rw [hv]; simp))
            have hO6 := hO1.alloc (.cells #[.int .i64 d.row, .int .i64 d.col, .slice d.A d.L.length d.cap] 35)
            have hI6 := bel_alloc hI1 (.cells #[.int .i64 d.row, .int .i64 d.col, .slice d.A d.L.length d.cap] 35)
            have hlies : Lies KW (wr.alloc (.cells #[.int .i64 d.row, .int .i64 d.col, .slice d.A d.L.length d.cap] 35)) (some ⟨wr.heap.size, 0, none⟩) [d] := Lies.blk (Blk.new wr rfl 35 #[.int .i64 d.row, .int .i64 d.col, .slice d.A d.L.length d.cap]) rfl
            have hb1' : ow.length + [d].length ≤ maxLen := by show _ + 1 ≤ _; unfold maxLen; omega
            have hb2' : (ow.length + [d].length) * KW.bytes ≤ 140737488355328 := by show (_ + 1) * 40 ≤ _; omega
            have hb3' : w2.heap.size ≤ (wr.alloc (.cells #[.int .i64 d.row, .int .i64 d.col, .slice d.A d.L.length d.cap] 35)).heap.size := hI6.size
            clear hv
            go_wp2_with (at_builtin; (refine wp_ol_append info_kw rfl Try.underlying22 rfl _ _ rfl rfl hO6 (M := [d]) (c := 1) rfl rfl hlies hb1' hb2' hb3' ?_); intro v7 w7 hO7 hg7)
            have hI7 := bel_grown hI6 hg7 (fun z hz => (hO6.lt z hz).1)
            go_roundw
            case rel => exact ⟨k + 1, by omega, by go_num, by rw [HF2.out]; exact hO7, hI7⟩
            case measure => simp [intOf]; omega
    obtain rfl : k = D.length := by omega
    rw [List.take_length] at hO hol
    have i1 : ¬ ((D.length : Int) < (D.length : Int)) := by omega
    obtain ⟨f1, f2, f3⟩ := fst_from D []
    have hft : tot (fstD D) ≤ 1048576 := by unfold fstD; simp only [tot, List.map_nil, List.sum_nil] at *; omega
    have HFM : Hid (∀ x, x ∈ fstD D → x ∈ D) := Lib.hid (fun x hx => (f1 x hx).elim (fun h => by cases h) id)
    have HFP : Hid ((fstD D).Pairwise (fun x y => cD x ≠ cD y)) := Lib.hid (f2 List.Pairwise.nil)
    have HDL : Hid (∀ x, x ∈ D → Lies KF w x.A x.L) := Lib.hid (fun x hx => by
      obtain ⟨i, hi⟩ := List.getElem?_of_mem hx
      obtain ⟨_, _, _, _, _, h, _⟩ := hS i x hi
      exact h)
    obtain ⟨ow, how⟩ : ∃ ow, ow = fstD D := ⟨_, rfl⟩
    rw [← how] at hO hol hft HFM HFP
    obtain ⟨A3, c3, rfl, hc3, hcm3, hl3, hA3⟩ := hO.see
    have hA3n : ∀ b off, A3 = some ⟨b, off, none⟩ → w2.heap.size ≤ b ∧ b < wr.heap.size := fun b off hb => by
      rcases hA3 with rfl | ⟨g, rfl, h1, h2⟩
      · cases hb
      · injection hb with hb
        injection hb with hb _ _
        subst hb
        exact ⟨h1, h2⟩
    have hPa1 := hPa0.below hI
    have hPb1 := hPb0.below hI
    have hc1 := hc0.below hI
    have hna : ∀ b off, A3 = some ⟨b, off, none⟩ → ¬ Oa b := fun b off hb hz => by have := hPa0.lt b hz; have := (hA3n b off hb).1; omega
    have hnb : ∀ b off, A3 = some ⟨b, off, none⟩ → ¬ Ob b := fun b off hb hz => by have := hPb0.lt b hz; have := (hA3n b off hb).1; omega
    have hlt3 : ∀ b off, A3 = some ⟨b, off, none⟩ → b < wr.heap.size := fun b off hb => (hA3n b off hb).2
    have hrl := tot_rev ow
    clear f1 f2 f3 how hkl hO hA3 hA3n hPa0 hPb0 hc0 hS hDl htot hI
    go_wp2_with fail
    go_loopw [11] (fun s11 wr => ∃ (k : Nat) (Oa Ob : Nat → Prop) (Ea Eb : List Ed), k ≤ ow.length ∧ s11 = .int .i64 k ∧ DS wr da (2 * tot (ow.take k)) Oa Ea ∧ DS wr db (2 * tot (ow.reverse.take k)) Ob Eb ∧ (∀ z, Oa z → ¬ Ob z) ∧ ((∀ z, Oa z → w.heap.size < z) ∧ (∀ z, Ob z → w.heap.size < z)) ∧ ((∀ b off, A3 = some ⟨b, off, none⟩ → ¬ Oa b) ∧ (∀ b off, A3 = some ⟨b, off, none⟩ → ¬ Ob b) ∧ (∀ b off, A3 = some ⟨b, off, none⟩ → b < wr.heap.size)) ∧ Lies KW wr A3 ow ∧
        Hid (∀ e, e ∈ Ea ↔ chS ow (fun _ => True) k e) ∧ Hid (∀ e, e ∈ Eb ↔ chS ow.reverse (fun _ => True) k e) ∧ Blk wr w.heap.size 33 #[.int .i64 row, .int .i64 col] ∧ Below w.heap.size w wr) (fun s11 _ => ow.length - (intOf s11).toNat)
    case atStart => exact ⟨0, Oa, Ob, [], [], Nat.zero_le _, rfl, hPa1, hPb1, hAB, ⟨hOa, hOb⟩, ⟨hna, hnb, hlt3⟩, hl3, Lib.hid (fun e => ⟨fun h => (by cases h), fun h => absurd h (chS_zero _ _ _)⟩), Lib.hid (fun e => ⟨fun h => (by cases h), fun h => absurd h (chS_zero _ _ _)⟩), hc1, hW⟩
    case round =>
      obtain ⟨k, Oa, Ob, Ea, Eb, hk, rfl, hPa, hPb, hAB, ⟨hOa, hOb⟩, ⟨hna, hnb, hlt⟩, hl, HCA, HCB, hc, hW⟩ := hrel
      clear hPa1 hPb1 hlt3 hl3 hc1 i1
      by_cases hkl : k < ow.length
      · obtain ⟨m, hm⟩ : ∃ m, m + 1 + k = ow.length := ⟨ow.length - 1 - k, by omega⟩
        obtain ⟨x, hx⟩ : ∃ x, ow[k]? = some x := ⟨_, List.getElem?_eq_getElem hkl⟩
        obtain ⟨y, hy⟩ : ∃ y, ow[m]? = some y := ⟨_, List.getElem?_eq_getElem (by omega)⟩
        have hyr : ow.reverse[k]? = some y := by
          rw [List.getElem?_reverse hkl, show ow.length - 1 - k = m by omega]
          exact hy
        obtain ⟨gx, ox, hAe, hgx, x0, x1, x2⟩ := dd_at hl hx
        subst hAe
        obtain ⟨gy, oy, hAe, hgy, y0, y1, y2⟩ := dd_at hl hy
        injection hAe with hAe
        injection hAe with hAe1 hAe2 _
        subst hAe1 hAe2
        have htx := tot_take hx
        have hty := tot_take hyr
        have htlx := tot_le ow (k + 1)
        have htly := tot_le ow.reverse (k + 1)
        have HCA2 : Hid (∀ e, e ∈ setD (cD x) x.L Ea ↔ chS ow (fun _ => True) (k + 1) e) := Lib.hid (chS_step hPa.srt hx trivial HCA.out)
        have HCB2 : Hid (∀ e, e ∈ setD (cD y) y.L Eb ↔ chS ow.reverse (fun _ => True) (k + 1) e) := Lib.hid (chS_step hPb.srt hyr trivial HCB.out)
        have hLx := HDL.out x (HFM.out x (List.mem_of_getElem? hx))
        have hLy := HDL.out y (HFM.out y (List.mem_of_getElem? hy))
        have i0 : (0 : Int) ≤ (k : Int) := by omega
        have i1 : (k : Int) < (ow.length : Int) := by omega
        have m0 : (0 : Int) ≤ (m : Int) := by omega
        have m1 : (m : Int) < (ow.length : Int) := by omega
        have hz1 : IntKind.i64.wrap ((ow.length : Int) - 1) = (ow.length : Int) - 1 := IntWalk.i64_in _ (by omega)
        have hz2 : IntKind.i64.wrap ((ow.length : Int) - 1 - (k : Int)) = (m : Int) := by rw [IntWalk.i64_in _ (by omega)]; omega
        have hglt := hlt gx ox rfl
        clear hx hy hyr
        go_upto_region 21 with fail
        have kx := (Blk.new wr rfl 35 #[.int .i64 x.row, .int .i64 x.col, .slice x.A x.L.length x.cap]).alloc (.cells #[.int .i64 y.row, .int .i64 y.col, .slice y.A y.L.length y.cap] 35)
        have ky := Blk.new (wr.alloc (.cells #[.int .i64 x.row, .int .i64 x.col, .slice x.A x.L.length x.cap] 35)) (g := wr.heap.size + 1) (by simp) 35 #[.int .i64 y.row, .int .i64 y.col, .slice y.A y.L.length y.cap]
        have hb3 := bel_alloc (bel_alloc (bel_refl wr) (.cells #[.int .i64 x.row, .int .i64 x.col, .slice x.A x.L.length x.cap] 35)) (.cells #[.int .i64 y.row, .int .i64 y.col, .slice y.A y.L.length y.cap] 35)
        have hPa3 := hPa.below hb3
        have hPb3 := hPb.below hb3
        have hl4 := hl.below hb3
        have hc3 := hc.below hb3
        have hW3 := bel_call hW hb3
        have hs3 := hb3.size
        have hgxa : ¬ Oa wr.heap.size ∧ ¬ Oa (wr.heap.size + 1) ∧ ¬ Ob wr.heap.size ∧ ¬ Ob (wr.heap.size + 1) := ⟨fun h => by have := hPa.lt _ h; omega, fun h => by have := hPa.lt _ h; omega, fun h => by have := hPb.lt _ h; omega, fun h => by have := hPb.lt _ h; omega⟩
        generalize hwz : (wr.alloc (.cells #[.int .i64 x.row, .int .i64 x.col, .slice x.A x.L.length x.cap] 35)).alloc (.cells #[.int .i64 y.row, .int .i64 y.col, .slice y.A y.L.length y.cap] 35) = w3 at kx ky hPa3 hPb3 hl4 hc3 hW3 hs3 ⊢
        generalize wr.heap.size = gb at kx ky hgxa hs3 hglt hlt ⊢
        clear hwz hb3 hPa hPb hl hc hW x0 x1 x2 y0 y1 y2
        have rdx := kx.rd
        have rdy := ky.rd
        go_wp2_with fail
        refine (ds_set da _ Oa Ea x.row x.col x.L x.A x.cap _ hPa3 (hLx.below hW3) (fun z hz b off hb hz' => by
          have h1 := lies_lt hLx hz hb
          have h2 := hOa b hz'
          omega) (by omega)).mono ?_
        rintro e w4 ⟨O4, rfl, hP4, hF4, hO4⟩
        have hPb4 := hPb3.frm hF4 (fun z hz hz' => hAB z hz' hz)
        have hAB4 : ∀ z, O4 z → ¬ Ob z := fun z hz hz' => (hO4 z hz).elim (fun h => hAB z h hz') (fun h => by have := hPb3.lt z hz'; omega)
        have hO4' : ∀ z, O4 z → w.heap.size < z := fun z hz => (hO4 z hz).elim (hOa z) (fun h => by have := hc3.lt; omega)
        have hna4 : ∀ b off, (some ⟨gx, ox, none⟩ : Option Addr) = some ⟨b, off, none⟩ → ¬ O4 b := fun b off hb hz => (hO4 b hz).elim (hna b off hb) (fun h => by have := hlt b off hb; omega)
        have hl5 := hl4.frmS hF4 hna
        have hc4 := hF4.blk hc3 (fun hz => by have := hOa _ hz; omega)
        have ky4 := hF4.blk ky hgxa.2.1
        have hW4 := hF4.bel hW3 (fun z hz => Nat.le_of_lt (hOa z hz))
        have hP5 := hP4.mono (N' := 2 * tot (ow.take (k + 1))) (by omega)
        have hs4 := hF4.size
        clear hP4 hPa3 hPb3 hF4 hO4 hl4 hc3 hW3 kx ky rdx rdy hAB hna htx htlx
        have rdy := ky4.rd
        go_wp2_with fail
        refine (ds_set db _ Ob Eb y.row y.col y.L y.A y.cap _ hPb4 (hLy.below hW4) (fun z hz b off hb hz' => by
          have h1 := lies_lt hLy hz hb
          have h2 := hOb b hz'
          omega) (by omega)).mono ?_
        rintro e w6 ⟨O6, rfl, hP6, hF6, hO6⟩
        have hPa6 := hP5.frm hF6 (fun z hz hz' => hAB4 z hz hz')
        have hAB6 : ∀ z, O4 z → ¬ O6 z := fun z hz hz' => (hO6 z hz').elim (fun h => hAB4 z hz h) (fun h => by have := hP5.lt z hz; omega)
        have hO6' : ∀ z, O6 z → w.heap.size < z := fun z hz => (hO6 z hz).elim (hOb z) (fun h => by have := hc4.lt; omega)
        have hnb6 : ∀ b off, (some ⟨gx, ox, none⟩ : Option Addr) = some ⟨b, off, none⟩ → ¬ O6 b := fun b off hb hz => (hO6 b hz).elim (hnb b off hb) (fun h => by have := hlt b off hb; omega)
        have hl7 := hl5.frmS hF6 hnb
        have hc6 := hF6.blk hc4 (fun hz => by have := hOb _ hz; omega)
        have hW6 := hF6.bel hW4 (fun z hz => Nat.le_of_lt (hOb z hz))
        have hP7 := hP6.mono (N' := 2 * tot (ow.reverse.take (k + 1))) (by omega)
        have hs6 := hF6.size
        have hlt6 : ∀ b off, (some ⟨gx, ox, none⟩ : Option Addr) = some ⟨b, off, none⟩ → b < w6.heap.size := fun b off hb => by have := hlt b off hb; omega
        clear hP6 hF6 hO6 hl5 hc4 hW4 ky4 rdy hP5 hPb4 hAB4 hty htly
        go_wp2_with fail
        go_roundw
        case rel => exact ⟨k + 1, O4, O6, _, _, by omega, by go_num, hPa6, hP7, hAB6, ⟨hO4', hO6'⟩, ⟨hna4, hnb6, hlt6⟩, hl7, HCA2, HCB2, hc6, hW6⟩
        case measure => simp [intOf]; omega
      · obtain rfl : k = ow.length := by omega
        rw [List.take_length] at hPa
        rw [show ow.reverse.take ow.length = ow.reverse by rw [← List.length_reverse, List.take_length]] at hPb
        obtain rfl : Ea = Eb := srte_ext hPa.srt hPb.srt (fun e => by
          rw [HCA.out e, HCB.out e, ch_apart HFP.out]
          have h1 := ch_apart (apart_rev HFP.out) e
          rw [List.length_reverse] at h1
          rw [h1]
          simp)
        have i1 : ¬ ((ow.length : Int) < (ow.length : Int)) := by omega
        have hEl := hPa.len
        have hDs := drs_len row col Ea []
        have hDs2 : (drs row col Ea).length ≤ 4611686018427387904 := by unfold drs; simp at hDs; omega
        clear hl hna hnb hlt hkl hDs
        go_wp2_with fail
        refine (ds_edges da _ Oa Ea _ hPa (by omega)).mono ?_
        rintro e wr ⟨v1, rfl, hL1, hb⟩
        obtain ⟨A11, c11, rfl, _, _, hL1, _⟩ := hL1.see
        replace hPa := hPa.below hb
        replace hPb := hPb.below hb
        replace hc := hc.below hb
        replace hW := bel_call hW hb
        clear hb
        go_wp2_with fail
        refine (ds_edges db _ Ob Ea _ hPb (by omega)).mono ?_
        rintro e wr ⟨v2, rfl, hL2, hb⟩
        obtain ⟨A12, c12, rfl, _, _, hL2, _⟩ := hL2.see
        replace hPa := hPa.below hb
        replace hPb := hPb.below hb
        replace hc := hc.below hb
        replace hW := bel_call hW hb
        replace hL1 := hL1.below hb
        clear hb
        go_wp2_with fail
        refine (dedges_same Ea A11 A12 c11 c12 _ hL1 hL2 (by omega)).mono ?_
        rintro e wr ⟨rfl, hb⟩
        replace hPa := hPa.below hb
        replace hPb := hPb.below hb
        replace hc := hc.below hb
        replace hW := bel_call hW hb
        clear hb hL1 hL2
        go_wp2_with fail
        refine (ds_back da _ Oa Ea _ hPa (by omega)).mono ?_
        rintro e wr ⟨v3, rfl, hL3, hb⟩
        obtain ⟨A13, c13, rfl, _, _, hL3, _⟩ := hL3.see
        replace hPa := hPa.below hb
        replace hPb := hPb.below hb
        replace hc := hc.below hb
        replace hW := bel_call hW hb
        clear hb
        go_wp2_with fail
        refine (ds_back db _ Ob Ea _ hPb (by omega)).mono ?_
        rintro e wr ⟨v4, rfl, hL4, hb⟩
        obtain ⟨A14, c14, rfl, _, _, hL4, _⟩ := hL4.see
        replace hPa := hPa.below hb
        replace hPb := hPb.below hb
        replace hc := hc.below hb
        replace hW := bel_call hW hb
        replace hL3 := hL3.below hb
        clear hb
        go_wp2_with fail
        refine (dedges_same Ea A13 A14 c13 c14 _ hL3 hL4 (by omega)).mono ?_
        rintro e wr ⟨rfl, hb⟩
        replace hPa := hPa.below hb
        replace hPb := hPb.below hb
        replace hc := hc.below hb
        replace hW := bel_call hW hb
        clear hb hL3 hL4
        go_wp2_with fail
        obtain ⟨S, hSS⟩ : ∃ S : World → Prop, S = fun w' => Blk w' w.heap.size 33 #[.int .i64 row, .int .i64 col] ∧ Blk w' w.heap.size 33 #[.int .i64 row, .int .i64 col] := ⟨_, rfl⟩
        have q0 := fun x => (held_of hSS x).1.rd
        have HSS := Lib.hid hSS
        have hS0 : S wr.drew := held_in HSS.out ⟨hc.drew, hc.drew⟩
        haveI : Nonempty (Held S) := ⟨⟨_, hS0⟩⟩
        clear hSS
        refine wp_region_tree (S := S) 8 (.q 0 <| .q 1 <| .q 3 <| .q 4 <| .a 2 <| .a 5 <| .a 6 <| .q 7 <| .done) [] (by kernel_rfl) (by kernel_rfl) hS0 ?_
        repeat (refine tree_q (by rfl) (by rfl) (fun K hK => ?_); go_simp; refine hK _ ?_; clear hK K)
        refine tree_a (by rfl) (by rfl) (fun K hK => ?_)
        go_simp
        refine (ds_direct da _ Oa Ea row col _ (hPa.below (bel_drew (bel_refl wr))) HRC.out (by omega)).mono ?_
        rintro e w3 ⟨v3, rfl, hL3, hb3⟩
        obtain ⟨A5, c5, rfl, _, _, hL3, _⟩ := hL3.see
        have h3 := bel_call (bel_drew (bel_refl wr)) hb3
        refine hK _ _ (held_in HSS.out ⟨hc.below h3, hc.below h3⟩) ?_
        clear hK K
        repeat (refine tree_q (by rfl) (by rfl) (fun K hK => ?_); go_simp; refine hK _ ?_; clear hK K)
        refine tree_a (by rfl) (by rfl) (fun K hK => ?_)
        go_simp
        refine (ds_direct db _ Ob Ea row col _ (hPb.below h3) HRC.out (by omega)).mono ?_
        rintro e w4 ⟨v4, rfl, hL4, hb4⟩
        obtain ⟨A6, c6, rfl, _, _, hL4, _⟩ := hL4.see
        have h4 := bel_call h3 hb4
        refine hK _ _ (held_in HSS.out ⟨hc.below h4, hc.below h4⟩) ?_
        clear hK K
        repeat (refine tree_q (by rfl) (by rfl) (fun K hK => ?_); go_simp; refine hK _ ?_; clear hK K)
        refine tree_a (by rfl) (by rfl) (fun K hK => ?_)
        go_simp
        refine (dcells_any (drs row col Ea) A5 A6 c5 c6 _ (hL3.below hb4) hL4 hDs2).mono ?_
        rintro e w5 ⟨rfl, hb5⟩
        have h5 := bel_call h4 hb5
        refine hK _ _ (held_in HSS.out ⟨hc.below h5, hc.below h5⟩) ?_
        clear hK K
        repeat (refine tree_q (by rfl) (by rfl) (fun K hK => ?_); go_simp; refine hK _ ?_; clear hK K)
        refine tree_nil ?_
        have hW5 := bel_call hW h5
        clear q0 hS0 HSS
        go_wp2_with fail
        refine (dlives_any _).mono ?_
        rintro e w9 ⟨rfl, hb9⟩
        have hW9 := bel_call hW5 hb9
        clear hb9
        go_wp2_with fail
        go_ret
        exact ⟨rfl, hW9⟩
end Go.Proofs.Ytpgnebhlnkoajaa

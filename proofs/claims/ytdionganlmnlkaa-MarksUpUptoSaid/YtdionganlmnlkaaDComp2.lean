/-
  Deps: contract of Compact, the walk. Conditions: those of each theorem.
-/
import Derived.Test.YtdionganlmnlkaaDComp
namespace Go.Proofs.Ytdionganlmnlkaa
open Go.ChangeShapes Go.WideShapes Go.ChangeAt Go.RowKit Go.Deep
attribute [local go_sem] Cls

theorem neq_cell (w : World) (a b c d : Int) : (binOp .neq 32 (.agg #[.int .i64 a, .int .i64 b]) (.agg #[.int .i64 c, .int .i64 d])).run Try.prog w = .ok (.bool (!decide ((⟨a, b⟩ : Cl) = ⟨c, d⟩))) w := by
  have h : (Op.equalIn (9998 + 2) 32 (.agg #[.int .i64 a, .int .i64 b]) (.agg #[.int .i64 c, .int .i64 d])).run Try.prog w = .ok (decide ((⟨a, b⟩ : Cl) = ⟨c, d⟩)) w := by
    by_cases h1 : a = c
    · by_cases h2 : b = d
      · simp [go_sem, h1, h2]
      · simp [go_sem, h1, h2]
    · simp [go_sem, h1]
  rw [run_neq_struct, show (10000 : Nat) = 9998 + 2 from rfl, h]
  rfl
theorem cpt_small {L : List Cl} (h : L.length < 2) : cpt L = L := by
  match L, h with
  | [], _ => rfl
  | [x], _ => simp [cpt, cptS]
theorem cells_put {cu : Array Value} {out : List Cl} (x : Cl) (h : cu.toList.take (out.length * 2) = cellsK KC out) (hs : out.length * 2 + 2 ≤ cu.size) :
    ((cu.setIfInBounds (out.length * 2) (.int .i64 x.row)).setIfInBounds (out.length * 2 + 1) (.int .i64 x.col)).toList.take ((out ++ [x]).length * 2) = cellsK KC (out ++ [x]) := by
  rw [cellsK_add, ← h]
  apply List.ext_getElem?
  intro j
  have e : (out ++ [x]).length * 2 = out.length * 2 + 2 := by simp; omega
  rw [e]
  have hl : (cu.toList.take (out.length * 2)).length = out.length * 2 := by simp; omega
  have hk : cellsK KC [x] = [.int .i64 x.row, .int .i64 x.col] := rfl
  by_cases hj : j < out.length * 2
  · rw [List.getElem?_take_of_lt (by omega), List.getElem?_append_left (by omega), List.getElem?_take_of_lt hj, Array.getElem?_toList, Array.getElem?_toList, Array.getElem?_setIfInBounds_ne (by omega), Array.getElem?_setIfInBounds_ne (by omega)]
  · rw [List.getElem?_append_right (by omega), hl, hk]
    by_cases h0 : j = out.length * 2
    · subst h0
      rw [List.getElem?_take_of_lt (by omega), Array.getElem?_toList, Array.getElem?_setIfInBounds_ne (by omega), Array.getElem?_setIfInBounds_self_of_lt (by omega), Nat.sub_self]
      rfl
    · by_cases h1 : j = out.length * 2 + 1
      · subst h1
        rw [List.getElem?_take_of_lt (by omega), Array.getElem?_toList, Array.getElem?_setIfInBounds_self_of_lt (by simp; omega), show out.length * 2 + 1 - out.length * 2 = 1 by omega]
        rfl
      · rw [List.getElem?_take_eq_none (by omega), List.getElem?_eq_none (by simp; omega)]
theorem take_cells {cu : Array Value} {L : List Cl} {k : Nat} (h : cu.toList.take (L.length * KC.size) = cellsK KC L) (hk : k ≤ L.length) : cu.toList.take (k * 2) = cellsK KC (L.take k) := by
  rw [cellsK_take, ← h, List.take_take, show min (k * KC.size) (L.length * KC.size) = k * 2 from Nat.min_eq_left (Nat.mul_le_mul_right _ hk)]
set_option maxHeartbeats 6400000 in
set_option maxRecDepth 100000 in
theorem compact_any {w : World} {B : Nat} {v : Value} {L : List Cl} (h : OW KC w B v L) (hl : L.length < 4611686018427387904) :
    Calls Try.prog 50 #[v] w fun e w' => (∃ v', e = .returned v' ∧ OW KC w' B v' (cpt L)) ∧ w.grownBy w' v.ownBlock := by
  rcases h with ⟨rfl, rfl⟩ | ⟨g, c, cur, rfl, hB, hb, hnc, hcm, hcs, htk⟩
  · go_enter Try.func50, Try.ntmps50
    go_wp2_with fail
    go_ret
    exact ⟨⟨_, rfl, .inl ⟨rfl, rfl⟩⟩, grown_refl w _⟩
  have hO : OW KC w B (.slice (some ⟨g, 0, none⟩) L.length c) L := .inr ⟨g, c, cur, rfl, hB, hb, hnc, hcm, hcs, htk⟩
  have HO := Lib.hid hO
  have hLi : Lies KC w (some ⟨g, 0, none⟩) L := by
    obtain ⟨A0, c0, hv0, _, _, h, _⟩ := hO.see
    injection hv0 with hv0 _ _
    rw [hv0]
    exact h
  clear hO
  have HTK := Lib.hid htk
  have HCS : Hid (c * 2 ≤ cur.size) := Lib.hid hcs
  have hcm2 : c ≤ 9223372036854775807 := by unfold maxLen at hcm; exact hcm
  clear htk hcs
  by_cases hn2 : L.length < 2
  · have hi2 : (L.length : Int) < 2 := by omega
    have hout : OW KC w B (.slice (some ⟨g, 0, none⟩) L.length c) (cpt L) := by rw [cpt_small hn2]; exact HO.out
    have HOUT := Lib.hid hout
    clear hout hn2
    go_enter Try.func50, Try.ntmps50
    go_wp2_with fail
    go_ret
    exact ⟨⟨_, rfl, HOUT.out⟩, grown_refl w _⟩
  have hi2 : ¬ (L.length : Int) < 2 := by omega
  have hgw : g < w.heap.size := hb.lt
  go_enter Try.func50, Try.ntmps50
  go_wp2_with fail
  clear hi2
  go_loopw [3] (fun s3 wr => ∃ k : Nat, 1 ≤ k ∧ k ≤ L.length ∧ s3 = .int .i64 k ∧ Hid (cpt (L.take k) = L.take k) ∧ Below w.heap.size w wr) (fun s3 _ => L.length - (intOf s3).toNat)
  case atStart => exact ⟨1, Nat.le_refl _, by omega, rfl, Lib.hid (cpt_small (by simp; omega)), bel_refl w⟩
  case round =>
    obtain ⟨k, hk1, hk, rfl, HC, hW⟩ := hrel
    by_cases hkl : k < L.length
    · obtain ⟨m, hm⟩ : ∃ m, m + 1 = k := ⟨k - 1, by omega⟩
      obtain ⟨x, hx⟩ : ∃ x, L[k]? = some x := ⟨_, List.getElem?_eq_getElem hkl⟩
      obtain ⟨y, hy⟩ : ∃ y, L[m]? = some y := ⟨_, List.getElem?_eq_getElem (by omega)⟩
      obtain ⟨g1, o1, hAe, hg1, x0, x1⟩ := cl_at (hLi.below hW) hx
      injection hAe with hAe
      injection hAe with hAe1 hAe2 _
      subst hAe1 hAe2
      obtain ⟨g2, o2, hAe, hg2, y0, y1⟩ := cl_at (hLi.below hW) hy
      injection hAe with hAe
      injection hAe with hAe1 hAe2 _
      subst hAe1 hAe2
      rw [Nat.zero_add] at x0 x1 y0 y1
      have d0 := fun d os => cell_regrown x0 d os
      have d1 := fun d os => cell_regrown x1 d os
      have d2 := fun d os => cell_regrown y0 d os
      have d3 := fun d os => cell_regrown y1 d os
      have hE := fun W => eql_cell W x.row x.col y.row y.col
      obtain ⟨q, hq⟩ : ∃ q, q = decide (x = y) := ⟨_, rfl⟩
      have hq2 : decide ((⟨x.row, x.col⟩ : Cl) = ⟨y.row, y.col⟩) = q := hq.symm
      rw [hq2] at hE
      have i0 : (0 : Int) ≤ (k : Int) := by omega
      have i1 : (k : Int) < (L.length : Int) := by omega
      have m0 : (0 : Int) ≤ (m : Int) := by omega
      have m1 : (m : Int) < (L.length : Int) := by omega
      have hz1 : IntKind.i64.wrap ((k : Int) - 1) = (m : Int) := by rw [IntWalk.i64_in _ (by omega)]; omega
      have hlast := cpt_last hy
      rw [hm] at hlast
      have hstep := cpt_take hx
      have HS := Lib.hid hstep
      have HLA := Lib.hid hlast
      have HQ := Lib.hid hq
      have HX := Lib.hid hx
      have HM := Lib.hid hm
      clear hq hq2 hx hy x0 x1 y0 y1 hstep hlast hm
      go_wp2_with fail
      refine wp_region_quiet_below (by kernel_rfl) (by kernel_rfl) ?_
      repeat (any_goals (first | go_big_quiet_step ((fail)) | fail))
      refine wpQuiet_nil ?_
      intro w5 hw'
      have hb5 := class_below hw'
      clear hw' d0 d1 d2 d3 hE
      cases q with
      | false =>
        have HC2 : Hid (cpt (L.take (k + 1)) = L.take (k + 1)) := Lib.hid (by
          have hl2 := HLA.out
          rw [HC.out] at hl2
          rw [HS.out, HC.out, List.take_add_one, HX.out]
          unfold cptS
          rw [hl2, if_neg (fun e => of_decide_eq_false HQ.out.symm (Option.some.inj e).symm)]
          rfl)
        go_wp2_with fail
        go_roundw
        case rel => exact ⟨k + 1, by omega, by omega, by go_num, HC2, bel_call hW hb5⟩
        case measure => simp [intOf]; omega
      | true =>
        have hC2 : cpt (L.take (k + 1)) = L.take k := by
          have hl2 := HLA.out
          rw [HC.out] at hl2
          rw [HS.out, HC.out]
          unfold cptS
          rw [hl2, if_pos (by rw [of_decide_eq_true HQ.out.symm])]
        have hC2l : (cpt (L.take (k + 1))).length = k := by rw [hC2]; simp; omega
        have HC2 := Lib.hid hC2
        have HC2L := Lib.hid hC2l
        have hbk := (hb.below hW).below hb5
        have hck : ¬ c = k := by omega
        have hkc : (k : Int) ≤ (c : Int) := by omega
        have hkn : (k : Int) ≤ (L.length : Int) := by omega
        have hWg := grown_of_below (bel_call hW hb5) (some g)
        clear hC2 hC2l hb5 hz1 m0 m1 i1
        go_wp2_with fail
        obtain ⟨r, hr⟩ : ∃ r, r = L.length - k := ⟨_, rfl⟩
        obtain ⟨cr, hcr⟩ : ∃ cr, cr = c - k := ⟨_, rfl⟩
        rw [← hr, ← hcr]
        have HR : Hid (k + r = L.length) := Lib.hid (by omega)
        have hr63 : r < 4611686018427387904 := by omega
        have hr1 : 1 ≤ r := by omega
        have hrk : k + r < 4611686018427387904 := by omega
        have hkk : k < 4611686018427387904 := by omega
        clear hr hcr
        go_loopw [3, 5] (fun s3 s5 wr => ∃ (k2 p : Nat) (cu : Array Value), 1 ≤ k2 ∧ k2 ≤ r ∧ s3 = .int .i64 p ∧ s5 = .int .i64 k2 ∧ Blk wr g 32 cu ∧ Hid (cu.size = cur.size) ∧ Hid (p = (cpt (L.take (k + k2))).length) ∧ p + 1 ≤ k + k2 ∧ Hid (cu.toList.take (p * 2) = cellsK KC (cpt (L.take (k + k2)))) ∧ Hid (∀ j, (k + k2 - 1) * 2 ≤ j → cu[j]? = cur[j]?) ∧ w.grownBy wr (some g)) (fun _ s5 _ => r - (intOf s5).toNat)
        case atStart => exact ⟨1, k, cur, Nat.le_refl _, hr1, rfl, rfl, hbk, Lib.hid rfl, Lib.hid HC2L.out.symm, Nat.le_refl _, Lib.hid (by rw [HC2.out]; exact take_cells HTK.out hk), Lib.hid (fun _ _ => rfl), hWg⟩
        case round =>
          obtain ⟨k2, p, cu, hk2, hk2r, rfl, rfl, hbu, HSZ, HP, hpk, HT, HJ, hgu⟩ := hrel
          clear hbk hWg HC2 HC2L
          by_cases hkl2 : k2 < r
          · obtain ⟨m2, hm2⟩ : ∃ m2, m2 + 1 = k2 := ⟨k2 - 1, by omega⟩
            have hkr := HR.out
            have hcs2 := HCS.out
            have hsz2 := HSZ.out
            obtain ⟨x, hx⟩ : ∃ x, L[k + k2]? = some x := ⟨_, List.getElem?_eq_getElem (by omega)⟩
            obtain ⟨y, hy⟩ : ∃ y, L[k + m2]? = some y := ⟨_, List.getElem?_eq_getElem (by omega)⟩
            obtain ⟨g1, o1, hAe, hg1, x0, x1⟩ := cl_at hLi hx
            injection hAe with hAe
            injection hAe with hAe1 hAe2 _
            subst hAe1 hAe2
            obtain ⟨g2, o2, hAe, hg2, y0, y1⟩ := cl_at hLi hy
            injection hAe with hAe
            injection hAe with hAe1 hAe2 _
            subst hAe1 hAe2
            rw [hb.rd, Nat.zero_add] at x0 x1 y0 y1
            have hat : ∀ j, (k + k2 - 1) * 2 ≤ j → ∀ u, cur[j]? = some u → wr.cell? ⟨g, j, none⟩ = some u := fun j hj u hu => (hbu.rd j).trans ((HJ.out j hj).trans hu)
            have a0 := hat (k * 2 + k2 * 2) (by omega) _ (by rw [← Nat.add_mul]; exact x0)
            have a1 := hat (k * 2 + k2 * 2 + 1) (by omega) _ (by rw [← Nat.add_mul]; exact x1)
            have b0 := hat (k * 2 + m2 * 2) (by omega) _ (by rw [← Nat.add_mul]; exact y0)
            have b1 := hat (k * 2 + m2 * 2 + 1) (by omega) _ (by rw [← Nat.add_mul]; exact y1)
            have d0 := fun d os => cell_regrown a0 d os
            have d1 := fun d os => cell_regrown a1 d os
            have d2 := fun d os => cell_regrown b0 d os
            have d3 := fun d os => cell_regrown b1 d os
            have hE := fun W => neq_cell W x.row x.col y.row y.col
            obtain ⟨q, hq⟩ : ∃ q, q = decide (x = y) := ⟨_, rfl⟩
            have hq2 : decide ((⟨x.row, x.col⟩ : Cl) = ⟨y.row, y.col⟩) = q := hq.symm
            rw [hq2] at hE
            have i0 : (0 : Int) ≤ (k2 : Int) := by omega
            have i1 : (k2 : Int) < (r : Int) := by omega
            have m0 : (0 : Int) ≤ (m2 : Int) := by omega
            have m1 : (m2 : Int) < (r : Int) := by omega
            have hz1 : IntKind.i64.wrap ((k2 : Int) - 1) = (m2 : Int) := by rw [IntWalk.i64_in _ (by omega)]; omega
            have hlast := cpt_last hy
            rw [show k + m2 + 1 = k + k2 by omega] at hlast
            have hstep := cpt_take hx
            have HS := Lib.hid hstep
            have HLA := Lib.hid hlast
            have HQ := Lib.hid hq
            have HX := Lib.hid hx
            have HM := Lib.hid hm2
            have p0 : (0 : Int) ≤ (p : Int) := by omega
            have p1 : (p : Int) < (L.length : Int) := by omega
            have hps : p * 2 + 2 ≤ cu.size := by omega
            clear hq hq2 hx hy x0 x1 y0 y1 hstep hlast hm2 hat hkr hcs2 hsz2 b0 b1
            go_wp2_with fail
            refine wp_region_quiet_below (by kernel_rfl) (by kernel_rfl) ?_
            repeat (any_goals (first | go_big_quiet_step ((fail)) | fail))
            refine wpQuiet_nil ?_
            intro w5 hw'
            have hb5 := class_below hw'
            clear hw' d0 d1 d2 d3 hE
            have hb55 := hbu.below hb5
            have hg55 := grown_below hgu hb5
            cases q with
            | true =>
              have hC2 : cpt (L.take (k + k2 + 1)) = cpt (L.take (k + k2)) := by
                rw [HS.out]
                unfold cptS
                rw [HLA.out, if_pos (by rw [of_decide_eq_true HQ.out.symm])]
              have HC2 := Lib.hid hC2
              clear hC2 hb5 a0 a1
              go_wp2_with fail
              go_roundw
              case rel => exact ⟨k2 + 1, p, cu, by omega, by omega, rfl, by go_num, hb55, HSZ, Lib.hid (by rw [show k + (k2 + 1) = k + k2 + 1 by omega, HC2.out]; exact HP.out), by omega, Lib.hid (by rw [show k + (k2 + 1) = k + k2 + 1 by omega, HC2.out]; exact HT.out), Lib.hid (fun j hj => HJ.out j (by omega)), hg55⟩
              case measure => simp [intOf]; omega
            | false =>
              have hC2 : cpt (L.take (k + k2 + 1)) = cpt (L.take (k + k2)) ++ [x] := by
                rw [HS.out]
                unfold cptS
                rw [HLA.out, if_neg (fun e => of_decide_eq_false HQ.out.symm (Option.some.inj e).symm)]
              have HC2 := Lib.hid hC2
              have e0 := (hb5.cell (p := ⟨g, k * 2 + k2 * 2, none⟩) hbu.lt).trans a0
              have e1 := (hb5.cell (p := ⟨g, k * 2 + k2 * 2 + 1, none⟩) hbu.lt).trans a1
              have ltg := hb55.lt
              have fzg := hb55.fz
              obtain ⟨u0, z0⟩ : ∃ u, w5.cell? ⟨g, p * 2, none⟩ = some u := ⟨_, (hb55.rd _).trans (Array.getElem?_eq_getElem (by omega))⟩
              obtain ⟨u1, z1⟩ : ∃ u, w5.cell? ⟨g, p * 2 + 1, none⟩ = some u := ⟨_, (hb55.rd _).trans (Array.getElem?_eq_getElem (by omega))⟩
              have hzp : IntKind.i64.wrap ((p : Int) + 1) = ((p + 1 : Nat) : Int) := by rw [IntWalk.i64_in _ (by omega)]; omega
              clear hC2 hb5 a0 a1
              go_wp2_with fail
              go_roundw
              case rel =>
                refine ⟨k2 + 1, p + 1, _, by omega, by omega, by go_num, by go_num, (hb55.put (p * 2) (.int .i64 x.row)).put (p * 2 + 1) (.int .i64 x.col), Lib.hid (by simp; exact HSZ.out), Lib.hid (by rw [show k + (k2 + 1) = k + k2 + 1 by omega, HC2.out, List.length_append, ← HP.out]; rfl), by omega, Lib.hid ?_, Lib.hid (fun j hj => by rw [Array.getElem?_setIfInBounds_ne (by omega), Array.getElem?_setIfInBounds_ne (by omega)]; exact HJ.out j (by omega)), grown_set (grown_set hg55 (.inl rfl) _) (.inl rfl) _⟩
                rw [show k + (k2 + 1) = k + k2 + 1 by omega, HC2.out]
                have hcp := cells_put (cu := cu) (out := cpt (L.take (k + k2))) x (by rw [← HP.out]; exact HT.out) (by rw [← HP.out]; exact hps)
                rw [List.length_append, ← HP.out] at hcp
                exact hcp
              case measure => simp [intOf]; omega
          · obtain rfl : k2 = r := by omega
            have hkr := HR.out
            have hcs2 := HCS.out
            have hsz2 := HSZ.out
            rw [hkr] at HP HT hpk
            rw [List.take_length] at HP HT
            have hpc : ¬ c = p := by omega
            have p1 : (p : Int) ≤ (L.length : Int) := by omega
            have p2 : (p : Int) ≤ (c : Int) := by omega
            have p0 : (0 : Int) ≤ (p : Int) := by omega
            have i1 : ¬ ((k2 : Int) < (k2 : Int)) := by omega
            obtain ⟨w9, cu9, hrun, hb9, hs9, hj9, hg9⟩ := run_clear_own (P := Try.prog) (ty := 0) (z := .agg #[.int .i64 0, .int .i64 0]) (c := c - p) (n := L.length - p) Try.underlying41 (fun w => by kernel_rfl) (by simp [Value.cells, Value.oneCell']) hbu (o := p * 2) (by simp [Value.cells]; omega)
            have hout : OW KC w9 B (.slice (some ⟨g, 0, none⟩) p c) (cpt L) := by
              refine .inr ⟨g, c, cu9, by rw [HP.out], hB, hb9, by rw [← HP.out]; omega, hcm, by show c * 2 ≤ _; omega, ?_⟩
              rw [← HT.out, ← HP.out]
              apply List.ext_getElem?
              intro j
              show (cu9.toList.take (p * 2))[j]? = _
              by_cases hj : j < p * 2
              · rw [List.getElem?_take_of_lt hj, List.getElem?_take_of_lt hj, Array.getElem?_toList, Array.getElem?_toList]
                exact hj9 j hj
              · rw [List.getElem?_take_eq_none (by omega), List.getElem?_take_eq_none (by omega)]
            have hgf := grown_trans hgu hg9
            have HOUT := Lib.hid hout
            clear hout hkr hcs2 hsz2 hkl2
            go_wp2_with fail
            go_ret
            exact ⟨⟨_, rfl, HOUT.out⟩, hgf⟩
    · obtain rfl : k = L.length := by omega
      have hcp : cpt L = L := by have := HC.out; rwa [List.take_length] at this
      have hout : OW KC wr B (.slice (some ⟨g, 0, none⟩) L.length c) (cpt L) := by rw [hcp]; exact HO.out.below hW
      have HOUT := Lib.hid hout
      clear hout hcp
      go_wp2_with fail
      go_ret
      exact ⟨⟨_, rfl, HOUT.out⟩, grown_of_below hW _⟩
end Go.Proofs.Ytdionganlmnlkaa

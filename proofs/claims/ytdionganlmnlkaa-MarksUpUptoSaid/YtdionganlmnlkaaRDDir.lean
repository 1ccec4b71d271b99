/-
  The document's deps: contract of Direct. Conditions: those of each theorem.
-/
import Derived.Test.YtdionganlmnlkaaRDSet
namespace Go.Proofs.Ytdionganlmnlkaa
open Go.ChangeShapes Go.WideShapes Go.ChangeAt Go.RowKit Go.Deep
attribute [local go_sem] Cls

/-- What the document's Direct answers. -/
def RDirIs (w : World) (Cs : List Cl) (e : Ending) (w' : World) : Prop :=
  ∃ v, e = .returned v ∧ OL KC w' w.heap.size v Cs ∧ Below w.heap.size w w'
theorem drs_take {row col : Int} {L : List Ed} {k : Nat} {x : Ed} (h : L[k]? = some x) : drs row col (L.take (k + 1)) = ovS row col (drs row col (L.take k)) (toP x) := by
  unfold drs
  rw [List.take_add_one, h, List.foldl_append]
  rfl
theorem bndc_max {a b k : Nat} (h1 : a ≤ k) (h2 : k < b) (h3 : (b + 1) * 56 ≤ 140737488355328) : a + 1 ≤ maxLen := by unfold maxLen; omega
theorem bndc_16 {a b k : Nat} (h1 : a ≤ k) (h2 : k < b) (h3 : (b + 1) * 56 ≤ 140737488355328) : (a + 1) * KC.bytes ≤ 140737488355328 := by
  have h4 : (a + 1) * 16 ≤ (b + 1) * 56 := Nat.mul_le_mul (by omega) (by omega)
  exact Nat.le_trans h4 h3
theorem ol_ne_blk {w : World} {B : Nat} {v : Value} {L : List Cl} (h : OL KC w B v L) {z : Nat} (hzB : z < B) : ∀ g, v.ownBlock = some g → g ≠ z := by
  rintro g hg rfl
  have := (h.lt g hg).1
  omega
set_option maxHeartbeats 6400000 in
set_option maxRecDepth 100000 in
theorem rdirect_any (yb B : Nat) (row col : Int) (L : List Ed) (A : Option Addr) (cap : Nat) (w : World) (h : RD w yb B L A cap) (hn : (L.length + 1) * 56 ≤ 140737488355328) :
    Calls Try.prog 12 #[.pointer (some ⟨yb, 0, none⟩), .agg #[.int .i64 row, .int .i64 col]] w (RDirIs w (drs row col L)) := by
  have hyb := h.top.lt
  go_enter Try.func12, Try.ntmps12
  go_wp2_with fail
  have hB0 := bel_alloc (bel_refl w) (.cells #[.int .i64 row, .int .i64 col] 32)
  have k0 := Blk.new w rfl 32 #[.int .i64 row, .int .i64 col]
  go_loopw [5, 6] (fun s5 s6 wr => ∃ k : Nat, k ≤ L.length ∧ s6 = .int .i64 k ∧ (∃ out, Hid (out = drs row col (L.take k)) ∧ out.length ≤ k ∧ OL KC wr (w.heap.size + 1) s5 out) ∧ Blk wr w.heap.size 32 #[.int .i64 row, .int .i64 col] ∧ Below w.heap.size w wr) (fun _ s6 _ => (L.length - (intOf s6).toNat : Nat))
  case atStart => exact ⟨0, Nat.zero_le _, rfl, ⟨[], Lib.hid rfl, Nat.le_refl _, OL.nil _ _⟩, k0, hB0⟩
  case round =>
    obtain ⟨k, hk, rfl, ⟨out, HO, hol, hO⟩, hc, hW⟩ := hrel
    clear hB0 k0
    have htop := h.top.below hW
    have g7 := htop.rd
    have gt := htop.lt
    obtain ⟨hcap, hLi0, hA0⟩ := rd_see h.lst
    have hLi := hLi0.below hW
    by_cases hkl : k < L.length
    · obtain ⟨x, hx⟩ : ∃ x, L[k]? = some x := ⟨_, List.getElem?_eq_getElem hkl⟩
      obtain ⟨g, off, hAe, hg, c0, c1, c2, c3, c4, c5, c6⟩ := ed_at hLi hx
      subst hAe
      have hst := drs_take (row := row) (col := col) hx
      rw [← HO.out] at hst
      have HST := Lib.hid hst
      have HX := Lib.hid hx
      have i0 : (0 : Int) ≤ (k : Int) := by omega
      have i1 : (k : Int) < (L.length : Int) := by omega
      clear hst hx
      obtain ⟨Ao, co, rfl, hcle, hcm, hLo, hAo⟩ := hO.see
      go_wp2_with fail
      clear g7 gt hLo
      have hP : ∀ W, Calls Try.prog 31 #[.agg #[.int .i64 x.t, .int .i64 x.l, .int .i64 x.b, .int .i64 x.r], .agg #[.int .i64 row, .int .i64 col]] W fun e w' => e = .returned (.bool (inB x.t x.l x.b x.r row col)) ∧ Below W.heap.size W w' := fun W => rin_any x.t x.l x.b x.r row col W
      cases hib : inB x.t x.l x.b x.r row col with
      | false =>
        rw [hib] at hP
        have HP := Lib.hid hP
        have hst2 : drs row col (L.take (k + 1)) = out := by rw [HST.out]; exact if_neg (fun h => by rw [show inB (toP x).t (toP x).l (toP x).b (toP x).r row col = false from hib] at h; cases h.1)
        have HST2 := Lib.hid hst2
        clear hP hst2 hib
        have gc := hc.gr
        have rdc := hc.rd
        have gt := htop.gr
        have rdt := htop.rd
        have ltt := htop.lt
        have d0 := fun d os => cell_regrown c0 d os
        have d1 := fun d os => cell_regrown c1 d os
        have d2 := fun d os => cell_regrown c2 d os
        have d3 := fun d os => cell_regrown c3 d os
        have d4 := fun d os => cell_regrown c4 d os
        have d5 := fun d os => cell_regrown c5 d os
        have d6 := fun d os => cell_regrown c6 d os
        refine wp_region_quiet_below (by kernel_rfl) (by kernel_rfl) ?_
        repeat (any_goals (first | go_big_quiet_step ((first | (go_at_call 31; exact Calls.regrown_of (HP.out _)))) | fail))
        refine wpQuiet_nil ?_
        intro w5 hw'
        have hb5 := class_below hw'
        clear hw'
        clear d0 d1 d2 d3 d4 d5 d6 gc rdc gt rdt ltt HP
        replace c0 := (hb5.cell hg).trans c0
        replace c1 := (hb5.cell hg).trans c1
        replace c2 := (hb5.cell hg).trans c2
        replace c3 := (hb5.cell hg).trans c3
        replace c4 := (hb5.cell hg).trans c4
        replace c5 := (hb5.cell hg).trans c5
        replace c6 := (hb5.cell hg).trans c6
        replace hW := bel_call hW hb5
        replace hO := hO.below hb5
        replace hc := hc.below hb5
        replace htop := htop.below hb5
        replace hg := Nat.lt_of_lt_of_le hg hb5.size
        clear hb5
        go_wp2_with fail
        have gc := hc.gr
        have rdc := hc.rd
        have gt := htop.gr
        have rdt := htop.rd
        have ltt := htop.lt
        have d0 := fun d os => cell_regrown c0 d os
        have d1 := fun d os => cell_regrown c1 d os
        have d2 := fun d os => cell_regrown c2 d os
        have d3 := fun d os => cell_regrown c3 d os
        have d4 := fun d os => cell_regrown c4 d os
        have d5 := fun d os => cell_regrown c5 d os
        have d6 := fun d os => cell_regrown c6 d os
        refine wp_region_quiet_below (by kernel_rfl) (by kernel_rfl) ?_
        repeat (any_goals (first | go_big_quiet_step ((fail)) | fail))
        refine wpQuiet_nil ?_
        intro w6 hw'
        have hb6 := class_below hw'
        clear hw'
        clear d0 d1 d2 d3 d4 d5 d6 gc rdc gt rdt ltt
        replace c0 := (hb6.cell hg).trans c0
        replace c1 := (hb6.cell hg).trans c1
        replace c2 := (hb6.cell hg).trans c2
        replace c3 := (hb6.cell hg).trans c3
        replace c4 := (hb6.cell hg).trans c4
        replace c5 := (hb6.cell hg).trans c5
        replace c6 := (hb6.cell hg).trans c6
        replace hW := bel_call hW hb6
        replace hO := hO.below hb6
        replace hc := hc.below hb6
        replace htop := htop.below hb6
        replace hg := Nat.lt_of_lt_of_le hg hb6.size
        clear hb6
        go_wp2_with fail
        go_roundw
        case rel => exact ⟨k + 1, by omega, by go_num, ⟨out, Lib.hid HST2.out.symm, by omega, hO⟩, hc, hW⟩
        case measure => simp [intOf]; omega
      | true =>
        rw [hib] at hP
        have HP := Lib.hid hP
        have HIB := Lib.hid hib
        clear hP hib
        have gc := hc.gr
        have rdc := hc.rd
        have gt := htop.gr
        have rdt := htop.rd
        have ltt := htop.lt
        have d0 := fun d os => cell_regrown c0 d os
        have d1 := fun d os => cell_regrown c1 d os
        have d2 := fun d os => cell_regrown c2 d os
        have d3 := fun d os => cell_regrown c3 d os
        have d4 := fun d os => cell_regrown c4 d os
        have d5 := fun d os => cell_regrown c5 d os
        have d6 := fun d os => cell_regrown c6 d os
        refine wp_region_quiet_below (by kernel_rfl) (by kernel_rfl) ?_
        repeat (any_goals (first | go_big_quiet_step ((first | (go_at_call 31; exact Calls.regrown_of (HP.out _)))) | fail))
        refine wpQuiet_nil ?_
        intro w5 hw'
        have hb5 := class_below hw'
        clear hw'
        clear d0 d1 d2 d3 d4 d5 d6 gc rdc gt rdt ltt HP
        replace c0 := (hb5.cell hg).trans c0
        replace c1 := (hb5.cell hg).trans c1
        replace c2 := (hb5.cell hg).trans c2
        replace c3 := (hb5.cell hg).trans c3
        replace c4 := (hb5.cell hg).trans c4
        replace c5 := (hb5.cell hg).trans c5
        replace c6 := (hb5.cell hg).trans c6
        replace hW := bel_call hW hb5
        replace hO := hO.below hb5
        replace hc := hc.below hb5
        replace htop := htop.below hb5
        replace hg := Nat.lt_of_lt_of_le hg hb5.size
        clear hb5
        go_wp2_with fail
        by_cases hl0 : out.length = 0
        · have hst2 : drs row col (L.take (k + 1)) = out ++ [(⟨x.row, x.col⟩ : Cl)] := by
            rw [HST.out]
            exact if_pos ⟨HIB.out, by rw [List.length_eq_zero_iff.1 hl0]; simp⟩
          have HST2 := Lib.hid hst2
          have hq0 : ((out.length : Int) == 0) = true := by rw [beq_iff_eq]; omega
          clear hst2 hl0
          have gc := hc.gr
          have rdc := hc.rd
          have gt := htop.gr
          have rdt := htop.rd
          have ltt := htop.lt
          have d0 := fun d os => cell_regrown c0 d os
          have d1 := fun d os => cell_regrown c1 d os
          have d2 := fun d os => cell_regrown c2 d os
          have d3 := fun d os => cell_regrown c3 d os
          have d4 := fun d os => cell_regrown c4 d os
          have d5 := fun d os => cell_regrown c5 d os
          have d6 := fun d os => cell_regrown c6 d os
          refine wp_region_quiet_below (by kernel_rfl) (by kernel_rfl) ?_
          repeat (any_goals (first | go_big_quiet_step ((fail)) | fail))
          refine wpQuiet_nil ?_
          intro w6 hw'
          have hb6 := class_below hw'
          clear hw'
          clear d0 d1 d2 d3 d4 d5 d6 gc rdc gt rdt ltt
          replace c0 := (hb6.cell hg).trans c0
          replace c1 := (hb6.cell hg).trans c1
          replace c2 := (hb6.cell hg).trans c2
          replace c3 := (hb6.cell hg).trans c3
          replace c4 := (hb6.cell hg).trans c4
          replace c5 := (hb6.cell hg).trans c5
          replace c6 := (hb6.cell hg).trans c6
          replace hW := bel_call hW hb6
          replace hO := hO.below hb6
          replace hc := hc.below hb6
          replace htop := htop.below hb6
          replace hg := Nat.lt_of_lt_of_le hg hb6.size
          clear hb6
          clear hq0
          have hO6 := hO.alloc (.cells #[.int .i64 x.row, .int .i64 x.col] 32)
          have hc6 := hc.alloc (.cells #[.int .i64 x.row, .int .i64 x.col] 32)
          have hW6 := bel_alloc hW (.cells #[.int .i64 x.row, .int .i64 x.col] 32)
          have hlies : Lies KC (w6.alloc (.cells #[.int .i64 x.row, .int .i64 x.col] 32)) (some ⟨w6.heap.size, 0, none⟩) [(⟨x.row, x.col⟩ : Cl)] := Lies.blk (Blk.new w6 rfl 32 #[.int .i64 x.row, .int .i64 x.col]) rfl
          have hb1' : out.length + [(⟨x.row, x.col⟩ : Cl)].length ≤ maxLen := bndc_max hol hkl hn
          have hb2' : (out.length + [(⟨x.row, x.col⟩ : Cl)].length) * KC.bytes ≤ 140737488355328 := bndc_16 hol hkl hn
          have hb3' : w.heap.size + 1 ≤ (w6.alloc (.cells #[.int .i64 x.row, .int .i64 x.col] 32)).heap.size := hc6.lt
          have rdt := htop.rd
          have ltt := htop.lt
          go_wp2_with (at_builtin; (refine wp_ol_append info_kc rfl Try.underlying41 rfl _ _ rfl rfl hO6 (M := [(⟨x.row, x.col⟩ : Cl)]) (c := 1) rfl rfl hlies hb1' hb2' hb3' ?_); intro v7 w7 hO7 hg7)
          have hB7 := bel_grown hW6 hg7 (fun z hz => by have := (hO6.lt z hz).1; omega)
          have hc7 := hc6.grownX hg7 (fun e => ol_ne_blk hO6 (by omega) _ e.symm rfl)
          go_roundw
          case rel => exact ⟨k + 1, by omega, by go_num, ⟨out ++ [(⟨x.row, x.col⟩ : Cl)], Lib.hid HST2.out.symm, by simp; omega, hO7⟩, hc7, hB7⟩
          case measure => simp [intOf]; omega
        · obtain ⟨m, hm⟩ : ∃ m, m + 1 = out.length := ⟨out.length - 1, by omega⟩
          obtain ⟨y, hy⟩ : ∃ y, out[m]? = some y := ⟨_, List.getElem?_eq_getElem (by omega)⟩
          have hgl : out.getLast? = some y := by
            rw [List.getLast?_eq_getElem?, show out.length - 1 = m by omega]
            exact hy
          have hLo5 := ol_lies hO
          obtain ⟨g', off', hAe', hg', p0, p1⟩ := cl_at hLo5 hy
          subst hAe'
          have e0 := fun d os => cell_regrown p0 d os
          have e1 := fun d os => cell_regrown p1 d os
          have hne := fun W => neq_cell W y.row y.col x.row x.col
          have hq0 : ((out.length : Int) == 0) = false := by rw [beq_eq_false_iff_ne]; omega
          have hz1 : IntKind.i64.wrap ((out.length : Int) - 1) = (m : Int) := by rw [IntWalk.i64_in _ (by omega)]; omega
          have m0 : (0 : Int) ≤ (m : Int) := by omega
          have m1 : (m : Int) < (out.length : Int) := by omega
          have HM := Lib.hid hm
          have HG := Lib.hid hgl
          clear p0 p1 hm hgl hy hg' hl0 hLo5
          by_cases hyx : y.row = x.row ∧ y.col = x.col
          · have hst2 : drs row col (L.take (k + 1)) = out := by
              rw [HST.out]
              refine if_neg (fun h => h.2 ?_)
              rw [HG.out]
              obtain ⟨y1, y2⟩ := y
              dsimp only at hyx
              rw [hyx.1, hyx.2]
              rfl
            have HST2 := Lib.hid hst2
            have hdd : decide ((⟨y.row, y.col⟩ : Cl) = ⟨x.row, x.col⟩) = true := decide_eq_true (by rw [hyx.1, hyx.2])
            rw [hdd] at hne
            clear hst2 hyx hdd
            have gc := hc.gr
            have rdc := hc.rd
            have gt := htop.gr
            have rdt := htop.rd
            have ltt := htop.lt
            have d0 := fun d os => cell_regrown c0 d os
            have d1 := fun d os => cell_regrown c1 d os
            have d2 := fun d os => cell_regrown c2 d os
            have d3 := fun d os => cell_regrown c3 d os
            have d4 := fun d os => cell_regrown c4 d os
            have d5 := fun d os => cell_regrown c5 d os
            have d6 := fun d os => cell_regrown c6 d os
            refine wp_region_quiet_below (by kernel_rfl) (by kernel_rfl) ?_
            repeat (any_goals (first | go_big_quiet_step ((fail)) | fail))
            refine wpQuiet_nil ?_
            intro w6 hw'
            have hb6 := class_below hw'
            clear hw'
            clear d0 d1 d2 d3 d4 d5 d6 gc rdc gt rdt ltt
            replace c0 := (hb6.cell hg).trans c0
            replace c1 := (hb6.cell hg).trans c1
            replace c2 := (hb6.cell hg).trans c2
            replace c3 := (hb6.cell hg).trans c3
            replace c4 := (hb6.cell hg).trans c4
            replace c5 := (hb6.cell hg).trans c5
            replace c6 := (hb6.cell hg).trans c6
            replace hW := bel_call hW hb6
            replace hO := hO.below hb6
            replace hc := hc.below hb6
            replace htop := htop.below hb6
            replace hg := Nat.lt_of_lt_of_le hg hb6.size
            clear hb6
            clear e0 e1 hne hz1 hq0
            go_wp2_with fail
            go_roundw
            case rel => exact ⟨k + 1, by omega, by go_num, ⟨out, Lib.hid HST2.out.symm, by omega, hO⟩, hc, hW⟩
            case measure => simp [intOf]; omega
          · have hst2 : drs row col (L.take (k + 1)) = out ++ [(⟨x.row, x.col⟩ : Cl)] := by
              rw [HST.out]
              refine if_pos ⟨HIB.out, fun h => hyx ?_⟩
              rw [HG.out] at h
              injection h with h
              rw [h]
              exact ⟨rfl, rfl⟩
            have HST2 := Lib.hid hst2
            have hdd : decide ((⟨y.row, y.col⟩ : Cl) = ⟨x.row, x.col⟩) = false := decide_eq_false (fun h => hyx (by injection h with h1 h2; exact ⟨h1, h2⟩))
            rw [hdd] at hne
            clear hst2 hyx hdd
            have gc := hc.gr
            have rdc := hc.rd
            have gt := htop.gr
            have rdt := htop.rd
            have ltt := htop.lt
            have d0 := fun d os => cell_regrown c0 d os
            have d1 := fun d os => cell_regrown c1 d os
            have d2 := fun d os => cell_regrown c2 d os
            have d3 := fun d os => cell_regrown c3 d os
            have d4 := fun d os => cell_regrown c4 d os
            have d5 := fun d os => cell_regrown c5 d os
            have d6 := fun d os => cell_regrown c6 d os
            refine wp_region_quiet_below (by kernel_rfl) (by kernel_rfl) ?_
            repeat (any_goals (first | go_big_quiet_step ((fail)) | fail))
            refine wpQuiet_nil ?_
            intro w6 hw'
            have hb6 := class_below hw'
            clear hw'
            clear d0 d1 d2 d3 d4 d5 d6 gc rdc gt rdt ltt
            replace c0 := (hb6.cell hg).trans c0
            replace c1 := (hb6.cell hg).trans c1
            replace c2 := (hb6.cell hg).trans c2
            replace c3 := (hb6.cell hg).trans c3
            replace c4 := (hb6.cell hg).trans c4
            replace c5 := (hb6.cell hg).trans c5
            replace c6 := (hb6.cell hg).trans c6
            replace hW := bel_call hW hb6
            replace hO := hO.below hb6
            replace hc := hc.below hb6
            replace htop := htop.below hb6
            replace hg := Nat.lt_of_lt_of_le hg hb6.size
            clear hb6
            clear e0 e1 hne hz1 hq0
            have hO6 := hO.alloc (.cells #[.int .i64 x.row, .int .i64 x.col] 32)
            have hc6 := hc.alloc (.cells #[.int .i64 x.row, .int .i64 x.col] 32)
            have hW6 := bel_alloc hW (.cells #[.int .i64 x.row, .int .i64 x.col] 32)
            have hlies : Lies KC (w6.alloc (.cells #[.int .i64 x.row, .int .i64 x.col] 32)) (some ⟨w6.heap.size, 0, none⟩) [(⟨x.row, x.col⟩ : Cl)] := Lies.blk (Blk.new w6 rfl 32 #[.int .i64 x.row, .int .i64 x.col]) rfl
            have hb1' : out.length + [(⟨x.row, x.col⟩ : Cl)].length ≤ maxLen := bndc_max hol hkl hn
            have hb2' : (out.length + [(⟨x.row, x.col⟩ : Cl)].length) * KC.bytes ≤ 140737488355328 := bndc_16 hol hkl hn
            have hb3' : w.heap.size + 1 ≤ (w6.alloc (.cells #[.int .i64 x.row, .int .i64 x.col] 32)).heap.size := hc6.lt
            have rdt := htop.rd
            have ltt := htop.lt
            go_wp2_with (at_builtin; (refine wp_ol_append info_kc rfl Try.underlying41 rfl _ _ rfl rfl hO6 (M := [(⟨x.row, x.col⟩ : Cl)]) (c := 1) rfl rfl hlies hb1' hb2' hb3' ?_); intro v7 w7 hO7 hg7)
            have hB7 := bel_grown hW6 hg7 (fun z hz => by have := (hO6.lt z hz).1; omega)
            have hc7 := hc6.grownX hg7 (fun e => ol_ne_blk hO6 (by omega) _ e.symm rfl)
            go_roundw
            case rel => exact ⟨k + 1, by omega, by go_num, ⟨out ++ [(⟨x.row, x.col⟩ : Cl)], Lib.hid HST2.out.symm, by simp; omega, hO7⟩, hc7, hB7⟩
            case measure => simp [intOf]; omega
    · obtain rfl : k = L.length := by omega
      have he : out = drs row col L := by rw [HO.out, List.take_length]
      subst he
      go_wp2_with fail
      go_ret
      exact ⟨_, rfl, hO.low (Nat.le_succ _), hW⟩
end Go.Proofs.Ytdionganlmnlkaa

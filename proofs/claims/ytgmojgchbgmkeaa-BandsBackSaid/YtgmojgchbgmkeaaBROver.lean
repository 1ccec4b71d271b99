/-
  Bands: contract of the document's Over. Conditions: those of each theorem.
-/
import Derived.Test.YtgmojgchbgmkeaaBRef3
import Derived.Test.YtgmojgchbgmkeaaBOvs
import Derived.Test.YtgmojgchbgmkeaaBOver2
namespace Go.Proofs.Ytgmojgchbgmkeaa
open Go.ChangeShapes Go.WideShapes Go.ChangeAt Go.RowKit Go.Deep
attribute [local go_sem] Cls

/-- What the document's Over answers. -/
def ROverIs (w : World) (Cs : List Cl) (e : Ending) (w' : World) : Prop :=
  ∃ v, e = .returned v ∧ OL KC w' w.heap.size v Cs ∧ Below w.heap.size w w'
theorem ovs_take {row col : Int} {L : List Pr} {k : Nat} {x : Pr} (h : L[k]? = some x) : ovs row col (L.take (k + 1)) = ovS row col (ovs row col (L.take k)) x := by
  unfold ovs
  rw [List.take_add_one, h, List.foldl_append]
  rfl
theorem ol_ne_cell {w : World} {B : Nat} {v : Value} {L : List Cl} (h : OL KC w B v L) {z : Nat} (hzB : z < B) : ∀ g, v.ownBlock = some g → g ≠ z := by
  rintro g hg rfl
  have := (h.lt g hg).1
  omega
set_option maxHeartbeats 6400000 in
set_option maxRecDepth 100000 in
theorem rover_any (yb B : Nat) (row col : Int) (L : List Pr) (A : Option Addr) (cap : Nat) (w : World) (h : RB w yb B L A cap) (hn : (L.length + 1) * 56 ≤ 140737488355328) :
    Calls Try.prog 14 #[.pointer (some ⟨yb, 0, none⟩), .agg #[.int .i64 row, .int .i64 col]] w (ROverIs w (ovs row col L)) := by
  have hyb := h.top.lt
  go_enter Try.func14, Try.ntmps14
  go_wp2_with fail
  have hB0 := bel_alloc (bel_refl w) (.cells #[.int .i64 row, .int .i64 col] 33)
  have k0 := Blk.new w rfl 33 #[.int .i64 row, .int .i64 col]
  go_loopw [5, 6] (fun s5 s6 wr => ∃ k : Nat, k ≤ L.length ∧ s6 = .int .i64 k ∧ (∃ out, Hid (out = ovs row col (L.take k)) ∧ out.length ≤ k ∧ OL KC wr (w.heap.size + 1) s5 out) ∧ Blk wr w.heap.size 33 #[.int .i64 row, .int .i64 col] ∧ Below w.heap.size w wr) (fun _ s6 _ => (L.length - (intOf s6).toNat : Nat))
  case atStart => exact ⟨0, Nat.zero_le _, rfl, ⟨[], Lib.hid rfl, Nat.le_refl _, OL.nil _ _⟩, k0, hB0⟩
  case round =>
    obtain ⟨k, hk, rfl, ⟨out, HO, hol, hO⟩, hc, hW⟩ := hrel
    clear hB0 k0
    have htop := h.top.below hW
    have g7 := htop.rd
    have gt := htop.lt
    obtain ⟨hcap, hLi0, hA0⟩ := rb_see h.lst
    have hLi := hLi0.below hW
    by_cases hkl : k < L.length
    · obtain ⟨x, hx⟩ : ∃ x, L[k]? = some x := ⟨_, List.getElem?_eq_getElem hkl⟩
      obtain ⟨g, off, hAe, hg, c0, c1, c2, c3, c4, c5, c6⟩ := edge_at hLi hx
      subst hAe
      have hst := ovs_take (row := row) (col := col) hx
      rw [← HO.out] at hst
      have HST := Lib.hid hst
      have HX := Lib.hid hx
      have i0 : (0 : Int) ≤ (k : Int) := by omega
      have i1 : (k : Int) < (L.length : Int) := by omega
      clear hst hx
      go_upto_region 6 with fail
      have k7 := Blk.new wr rfl 47 #[.int .i64 x.row, .int .i64 x.col, .bool true, .int .i64 x.t, .int .i64 x.l, .int .i64 x.b, .int .i64 x.r]
      have hB3 := bel_alloc hW (.cells #[.int .i64 x.row, .int .i64 x.col, .bool true, .int .i64 x.t, .int .i64 x.l, .int .i64 x.b, .int .i64 x.r] 47)
      have hO3 := hO.alloc (.cells #[.int .i64 x.row, .int .i64 x.col, .bool true, .int .i64 x.t, .int .i64 x.l, .int .i64 x.b, .int .i64 x.r] 47)
      have hc3 := hc.alloc (.cells #[.int .i64 x.row, .int .i64 x.col, .bool true, .int .i64 x.t, .int .i64 x.l, .int .i64 x.b, .int .i64 x.r] 47)
      generalize hwz : wr.alloc (.cells #[.int .i64 x.row, .int .i64 x.col, .bool true, .int .i64 x.t, .int .i64 x.l, .int .i64 x.b, .int .i64 x.r] 47) = w3 at k7 hB3 hO3 hc3 ⊢
      clear hwz
      generalize wr.heap.size = gp at k7 ⊢
      clear hO hc hW htop g7 gt hLi hLi0 hA0 c0 c1 c2 c3 c4 c5 c6 hg
      have hP : ∀ W, Calls Try.prog 28 #[.agg #[.int .i64 x.t, .int .i64 x.l, .int .i64 x.b, .int .i64 x.r], .agg #[.int .i64 row, .int .i64 col]] W fun e w' => e = .returned (.bool (inB x.t x.l x.b x.r row col)) ∧ Below W.heap.size W w' := fun W => rin_any x.t x.l x.b x.r row col W
      have g7 := k7.gr
      have gc := hc3.gr
      obtain ⟨A0, c0, rfl, hcle, hcm, hLo, hA0⟩ := hO3.see
      have hz0 : IntKind.i64.wrap (k : Int) = (k : Int) := IntWalk.i64_in _ (by omega)
      cases hib : inB x.t x.l x.b x.r row col with
      | false =>
        rw [hib] at hP
        have HP := Lib.hid hP
        have hst2 : ovs row col (L.take (k + 1)) = out := by rw [HST.out]; exact if_neg (fun h => by rw [hib] at h; cases h.1)
        have HST2 := Lib.hid hst2
        clear hP hst2 hib
        refine wp_region_quiet_below (by kernel_rfl) (by kernel_rfl) ?_
        repeat (any_goals (first | go_big_quiet_step ((first | (go_at_call 28; exact Calls.regrown_of (HP.out _)))) | fail))
        refine wpQuiet_nil ?_
        intro w5 hw'
        have hb5 := class_below hw'
        clear hw'
        clear g7 gc
        go_wp2_with fail
        go_roundw
        case rel => exact ⟨k + 1, by omega, by go_num, ⟨out, Lib.hid HST2.out.symm, by omega, hO3.below hb5⟩, hc3.below hb5, bel_call hB3 hb5⟩
        case measure => simp [intOf]; omega
      | true =>
        rw [hib] at hP
        have HP := Lib.hid hP
        by_cases hl0 : out.length = 0
        · have hst2 : ovs row col (L.take (k + 1)) = out ++ [(⟨x.row, x.col⟩ : Cl)] := by
            rw [HST.out]
            exact if_pos ⟨hib, by rw [List.length_eq_zero_iff.1 hl0]; simp⟩
          have HST2 := Lib.hid hst2
          have hq0 : ((out.length : Int) == 0) = true := by rw [beq_iff_eq]; omega
          clear hP hst2 hib hl0
          refine wp_region_quiet_below (by kernel_rfl) (by kernel_rfl) ?_
          repeat (any_goals (first | go_big_quiet_step ((first | (go_at_call 28; exact Calls.regrown_of (HP.out _)))) | fail))
          refine wpQuiet_nil ?_
          intro w5 hw'
          have hb5 := class_below hw'
          clear hw'
          have k75 := k7.below hb5
          have rd7 := k75.rd
          have hO5 := hO3.below hb5
          have hc5 := hc3.below hb5
          have hB5 := bel_call hB3 hb5
          have hB6 := bel_alloc hB5 (.cells #[.int .i64 x.row, .int .i64 x.col] 33)
          have hO6 := hO5.alloc (.cells #[.int .i64 x.row, .int .i64 x.col] 33)
          have hc6 := hc5.alloc (.cells #[.int .i64 x.row, .int .i64 x.col] 33)
          have hlies : Lies KC (w5.alloc (.cells #[.int .i64 x.row, .int .i64 x.col] 33)) (some ⟨w5.heap.size, 0, none⟩) [(⟨x.row, x.col⟩ : Cl)] := Lies.blk (Blk.new w5 rfl 33 #[.int .i64 x.row, .int .i64 x.col]) rfl
          have hb1 : out.length + [(⟨x.row, x.col⟩ : Cl)].length ≤ maxLen := by show out.length + 1 ≤ _; unfold maxLen; omega
          have hb2 : (out.length + [(⟨x.row, x.col⟩ : Cl)].length) * KC.bytes ≤ 140737488355328 := by show (out.length + 1) * 16 ≤ _; omega
          have hb3 : w.heap.size + 1 ≤ (w5.alloc (.cells #[.int .i64 x.row, .int .i64 x.col] 33)).heap.size := hc6.lt
          clear g7 gc hO5 hc5 hB5 hb5 k7 hO3 hc3 hB3 hLo
          go_wp2_with (at_builtin; (refine wp_ol_append info_kc rfl Try.underlying38 rfl _ _ rfl rfl hO6 (M := [(⟨x.row, x.col⟩ : Cl)]) (c := 1) rfl rfl hlies hb1 hb2 hb3 ?_); intro v7 w7 hO7 hg7)
          have hB7 := bel_grown hB6 hg7 (fun z hz => by have := (hO6.lt z hz).1; omega)
          have hc7 := hc6.grownX hg7 (fun e => ol_ne_cell hO6 (by omega) _ e.symm rfl)
          go_roundw
          case rel => exact ⟨k + 1, by omega, by go_num, ⟨out ++ [(⟨x.row, x.col⟩ : Cl)], Lib.hid HST2.out.symm, by simp; omega, hO7⟩, hc7, hB7⟩
          case measure => simp [intOf]; omega
        · obtain ⟨m, hm⟩ : ∃ m, m + 1 = out.length := ⟨out.length - 1, by omega⟩
          obtain ⟨y, hy⟩ : ∃ y, out[m]? = some y := ⟨_, List.getElem?_eq_getElem (by omega)⟩
          have hgl : out.getLast? = some y := by
            rw [List.getLast?_eq_getElem?, show out.length - 1 = m by omega]
            exact hy
          obtain ⟨g, off, hAe, hg, d0, d1⟩ := cl_at hLo hy
          subst hAe
          have e0 := fun d os => cell_regrown d0 d os
          have e1 := fun d os => cell_regrown d1 d os
          have hne := fun W => neq_cell W y.row y.col x.row x.col
          have hq0 : ((out.length : Int) == 0) = false := by rw [beq_eq_false_iff_ne]; omega
          have hz1 : IntKind.i64.wrap ((out.length : Int) - 1) = (m : Int) := by rw [IntWalk.i64_in _ (by omega)]; omega
          have m0 : (0 : Int) ≤ (m : Int) := by omega
          have m1 : (m : Int) < (out.length : Int) := by omega
          have HM := Lib.hid hm
          have HG := Lib.hid hgl
          clear d0 d1 hm hgl hy hg hl0 hP
          by_cases hyx : y.row = x.row ∧ y.col = x.col
          · have hst2 : ovs row col (L.take (k + 1)) = out := by
              rw [HST.out]
              refine if_neg (fun h => h.2 ?_)
              rw [HG.out]
              obtain ⟨y1, y2⟩ := y
              dsimp only at hyx
              rw [hyx.1, hyx.2]
            have HST2 := Lib.hid hst2
            rw [decide_eq_true hyx] at hne
            clear hst2 hyx hib
            refine wp_region_quiet_below (by kernel_rfl) (by kernel_rfl) ?_
            repeat (any_goals (first | go_big_quiet_step ((first | (go_at_call 28; exact Calls.regrown_of (HP.out _)))) | fail))
            refine wpQuiet_nil ?_
            intro w5 hw'
            have hb5 := class_below hw'
            clear hw'
            clear g7 gc e0 e1 hne hz1
            go_wp2_with fail
            go_roundw
            case rel => exact ⟨k + 1, by omega, by go_num, ⟨out, Lib.hid HST2.out.symm, by omega, hO3.below hb5⟩, hc3.below hb5, bel_call hB3 hb5⟩
            case measure => simp [intOf]; omega
          · have hst2 : ovs row col (L.take (k + 1)) = out ++ [(⟨x.row, x.col⟩ : Cl)] := by
              rw [HST.out]
              refine if_pos ⟨hib, fun h => hyx ?_⟩
              rw [HG.out] at h
              injection h with h
              rw [h]
              exact ⟨rfl, rfl⟩
            have HST2 := Lib.hid hst2
            rw [decide_eq_false hyx] at hne
            clear hst2 hyx hib
            refine wp_region_quiet_below (by kernel_rfl) (by kernel_rfl) ?_
            repeat (any_goals (first | go_big_quiet_step ((first | (go_at_call 28; exact Calls.regrown_of (HP.out _)))) | fail))
            refine wpQuiet_nil ?_
            intro w5 hw'
            have hb5 := class_below hw'
            clear hw'
            have k75 := k7.below hb5
            have rd7 := k75.rd
            have hO5 := hO3.below hb5
            have hc5 := hc3.below hb5
            have hB5 := bel_call hB3 hb5
            have hB6 := bel_alloc hB5 (.cells #[.int .i64 x.row, .int .i64 x.col] 33)
            have hO6 := hO5.alloc (.cells #[.int .i64 x.row, .int .i64 x.col] 33)
            have hc6 := hc5.alloc (.cells #[.int .i64 x.row, .int .i64 x.col] 33)
            have hlies : Lies KC (w5.alloc (.cells #[.int .i64 x.row, .int .i64 x.col] 33)) (some ⟨w5.heap.size, 0, none⟩) [(⟨x.row, x.col⟩ : Cl)] := Lies.blk (Blk.new w5 rfl 33 #[.int .i64 x.row, .int .i64 x.col]) rfl
            have hb1 : out.length + [(⟨x.row, x.col⟩ : Cl)].length ≤ maxLen := by show out.length + 1 ≤ _; unfold maxLen; omega
            have hb2 : (out.length + [(⟨x.row, x.col⟩ : Cl)].length) * KC.bytes ≤ 140737488355328 := by show (out.length + 1) * 16 ≤ _; omega
            have hb3 : w.heap.size + 1 ≤ (w5.alloc (.cells #[.int .i64 x.row, .int .i64 x.col] 33)).heap.size := hc6.lt
            clear g7 gc e0 e1 hne hz1 hO5 hc5 hB5 hb5 k7 hO3 hc3 hB3 hLo
            go_wp2_with (at_builtin; (refine wp_ol_append info_kc rfl Try.underlying38 rfl _ _ rfl rfl hO6 (M := [(⟨x.row, x.col⟩ : Cl)]) (c := 1) rfl rfl hlies hb1 hb2 hb3 ?_); intro v7 w7 hO7 hg7)
            have hB7 := bel_grown hB6 hg7 (fun z hz => by have := (hO6.lt z hz).1; omega)
            have hc7 := hc6.grownX hg7 (fun e => ol_ne_cell hO6 (by omega) _ e.symm rfl)
            go_roundw
            case rel => exact ⟨k + 1, by omega, by go_num, ⟨out ++ [(⟨x.row, x.col⟩ : Cl)], Lib.hid HST2.out.symm, by simp; omega, hO7⟩, hc7, hB7⟩
            case measure => simp [intOf]; omega
    · obtain rfl : k = L.length := by omega
      have he : out = ovs row col L := by rw [HO.out, List.take_length]
      subst he
      go_wp2_with fail
      go_ret
      exact ⟨_, rfl, hO.low (Nat.le_succ _), hW⟩
end Go.Proofs.Ytgmojgchbgmkeaa

/-
  The walk of MarksStop. Conditions: the deeds lie as said; they hold no more than the bound.
-/
import Derived.Test.YtdionganlmnlkaaMPlain
namespace Go.Proofs.Ytdionganlmnlkaa
open Go.ChangeShapes Go.WideShapes Go.ChangeAt Go.RowKit Go.Deep
attribute [local go_sem] Cls

theorem neq_mk_same (w : World) (a b s : Int) : (binOp .neq 61 (.agg #[.int .i64 a, .int .i64 b, .int .i64 s]) (.agg #[.int .i64 a, .int .i64 b, .int .i64 s])).run Try.prog w = .ok (.bool false) w := by
  have h : (Op.equalIn (9998 + 2) 61 (.agg #[.int .i64 a, .int .i64 b, .int .i64 s]) (.agg #[.int .i64 a, .int .i64 b, .int .i64 s])).run Try.prog w = .ok true w := by
    simp [go_sem]
  rw [run_neq_struct, show (10000 : Nat) = 9998 + 2 from rfl, h]
  rfl
set_option maxHeartbeats 12800000 in
set_option maxRecDepth 100000 in
theorem marksStop_walk (A : Option Addr) (cap : Nat) (D : List DdV) (row cl : Int) (w : World) (hS : DeedsAt w A D) (hrc : rngC ⟨row, cl⟩) (htot : tot D ≤ 1048576) :
    Calls Try.prog 5 #[.slice A D.length cap, .agg #[.int .i64 row, .int .i64 cl]] w fun e w' => e = .returned (.bool true) ∧ Below w.heap.size w w' := by
  have hDl := tot_len D
  have hnq := fun W a b s => neq_mk_same W a b s
  go_enter Try.func5, Try.ntmps5
  go_wp2_with fail
  have hB0 := bel_alloc (bel_refl w) (.cells #[.int .i64 row, .int .i64 cl] 32)
  have kc0 := Blk.new w rfl 32 #[.int .i64 row, .int .i64 cl]
  refine (begin_any _).mono ?_
  rintro e w1 ⟨bb, db, mb, sm, yb, rb, col, rfl, hS0, hlow0, hb1⟩
  have h0 := li_new (bel_call hB0 hb1) hS0 (fun z hz => Nat.le_trans hB0.size (hlow0 z hz))
  have kb0 : Bx w1 col w.heap.size 32 #[.int .i64 row, .int .i64 cl] := ⟨kc0.below hb1, by
    by_cases hz : col w.heap.size = 0
    · exact hz
    · have h1 := hlow0 _ hz
      have h2 := kc0.lt
      omega⟩
  obtain ⟨gc, hgc⟩ : ∃ gc, gc = w.heap.size := ⟨_, rfl⟩
  rw [← hgc] at kb0 ⊢
  have qb := hS0.top.rd
  have lb := hS0.top.lt
  clear hB0 kc0 hS0 hlow0 hb1 hgc
  go_wp2_with fail
  clear qb lb
  go_loopw [6] (fun s wr => ∃ (k : Nat) (col : Nat → Nat) (pk : Int) (f : Cl → Option Int) (Es : List Ed), k ≤ D.length ∧ s = .int .i64 k ∧ LI w wr bb db mb sm yb rb (tot (D.take k)) col pk f Es ∧ Bx wr col gc 32 #[.int .i64 row, .int .i64 cl]) (fun s _ => D.length - (intOf s).toNat)
  case atStart => exact ⟨0, col, 0, _, [], Nat.zero_le _, rfl, h0, kb0⟩
  case round =>
    clear h0 kb0
    obtain ⟨k, col, pk, f, Es, hk, rfl, h, kb⟩ := hrel
    by_cases hkl : k < D.length
    · obtain ⟨d, hd⟩ : ∃ d, D[k]? = some d := ⟨_, List.getElem?_eq_getElem hkl⟩
      obtain ⟨b1, o1, hA1, hb1, ⟨c0, c1, c2, c3, c4⟩, hLi, hrcd, hkd⟩ := hS k d hd
      subst hA1
      replace c0 := (h.bel.cell hb1).trans c0
      replace c1 := (h.bel.cell hb1).trans c1
      replace c2 := (h.bel.cell hb1).trans c2
      replace c3 := (h.bel.cell hb1).trans c3
      replace c4 := (h.bel.cell hb1).trans c4
      have htk := tot_take hd
      have htl := tot_le D (k + 1)
      have hT : tot (D.take k) + (d.L.length + 1) ≤ 1048576 := by omega
      have i0 : (0 : Int) ≤ (k : Int) := by omega
      have i1 : (k : Int) < (D.length : Int) := by omega
      have HTK := Lib.hid htk
      clear hd htk htl
      go_wp2_with fail
      refine (li_does d.kd d.row d.col d.L d.A d.cap d.fm h hLi hrcd hkd hT).mono ?_
      rintro e w4 ⟨rfl, col4, pk9, f4, Es4, h4, x4, _⟩
      rw [← HTK.out] at h4
      have kb4 := kb.ext x4
      clear c0 c1 c2 c3 c4 h kb x4 hT
      go_wp2_with fail
      go_roundw
      case rel => exact ⟨k + 1, col4, pk9, f4, Es4, by omega, by go_num, h4, kb4⟩
      case measure => simp [intOf]; omega
    obtain rfl : k = D.length := by omega
    rw [List.take_length] at h
    have i1 : ¬ ((D.length : Int) < (D.length : Int)) := by omega
    have hEl := h.len
    have hE20 : Es.length ≤ 1048576 := by omega
    have hE56 : (Es.length + 1) * 56 ≤ 140737488355328 := by omega
    obtain ⟨Oy, hry, _⟩ := h.bs.rs
    have HRS := Lib.hid hry
    have HTOP := Lib.hid h.bs.top
    have HKB := Lib.hid kb.1
    clear hry
    go_upto_region 8 with fail
    obtain ⟨S, hSS⟩ : ∃ S : World → Prop, S = fun W => Blk W bb 30 #[.pointer (some ⟨db, 0, none⟩), .pointer (some ⟨mb, 0, none⟩), .pointer (some ⟨yb, 0, none⟩), .pointer (some ⟨rb, 0, none⟩)] ∧ Blk W gc 32 #[.int .i64 row, .int .i64 cl] := ⟨_, rfl⟩
    have q0 := fun x => (held_of hSS x).1.rd
    have l0 := fun x => (held_of hSS x).1.lt
    have q1 := fun x => (held_of hSS x).2.rd
    have HSS := Lib.hid hSS
    have HCL : Hid (∀ W', Below wr.heap.size wr W' → S W') := Lib.hid (fun W' hB => held_in HSS.out ⟨HTOP.out.below hB, HKB.out.below hB⟩)
    have hS0 : S wr.drew := HCL.out _ (bel_drew (bel_refl wr))
    haveI : Nonempty (Held S) := ⟨⟨_, hS0⟩⟩
    clear hSS
    refine wp_region_tree (S := S) 9 (.q 0 <| .q 1 <| .q 2 <| .q 3 <| .q 4 <| .a 5 <| .q 6 <| .q 7 <| .q 8 <| .done) [] (by kernel_rfl) (by kernel_rfl) hS0 ?_
    repeat (refine tree_q (by rfl) (by rfl) (fun K hK => ?_); go_simp; refine hK _ ?_; clear hK K)
    refine tree_a (by rfl) (by rfl) (fun K hK => ?_)
    go_simp
    refine (refsOf_any row cl (HRS.out.below (bel_drew (bel_refl wr))) hE56).mono ?_
    rintro e w5 ⟨v5, rfl, hO5, hb5⟩
    have hB5 := bel_call (bel_drew (bel_refl wr)) hb5
    obtain ⟨A5, c5, rfl, _, _, _, _⟩ := hO5.see
    generalize (RefsOf Es (⟨row, cl⟩ : Cl)).length = nr
    clear hb5 hO5
    refine hK _ _ (HCL.out _ (hB5)) ?_
    clear hK K
    repeat (refine tree_q (by rfl) (by rfl) (fun K hK => ?_); go_simp; refine hK _ ?_; clear hK K)
    refine tree_nil ?_
    clear q0 l0 q1 hS0 HSS HCL
    replace h := h.below hB5
    replace kb := kb.below hB5
    clear HRS HTOP HKB hB5
    go_upto_region 9 with fail
    generalize decide (0 < nr) = fm
    have qb := h.bs.top.rd
    have lb := h.bs.top.lt
    have q0 := kb.1.rd
    go_wp2_with fail
    go_still_tail 6, (by kernel_rfl)
    go_wp2_with fail
    refine (li_touch row cl fm (h.below (bel_drew (bel_refl _))) hrc (by omega) hE20).mono ?_
    rintro e w6 ⟨rfl, pk6, f6, h6, x6, ht6⟩
    have HT6 := Lib.hid ht6
    have kb6 := (kb.below (bel_drew (bel_refl _))).ext x6
    clear qb lb q0 x6 ht6
    have h := h6
    have kb := kb6
    clear h6 kb6
    have qb := h.bs.top.rd
    have lb := h.bs.top.lt
    go_wp2_with fail
    refine (mall_any h.bs.mm (cb7 (by omega))).mono ?_
    rintro e w7 ⟨v7, L7, rfl, hO7, hs7, hm7, hr7, hl7, hb7⟩
    obtain ⟨A7, c7, rfl, _, hc7, hLi7, hA7⟩ := hO7.see
    have hL7 : LN (KMs (stOf f6)) w7 col A7 L7 := h.bs.list hb7 hLi7 (fun b off e => by
      rcases hA7 with ⟨rfl, _⟩ | ⟨g, cur, rfl, hg, _⟩
      · cases e
      · injection e with e
        injection e with e _ _
        omega)
    have HS7 := Lib.hid hs7
    have HM7 := Lib.hid hm7
    have HR7 := Lib.hid hr7
    have hlc7 : L7.length ≤ 9223372036854775807 := by unfold maxLen at hc7; omega
    clear qb lb hO7 hLi7 hA7 hs7 hm7 hr7 hc7 hl7
    replace h := h.below hb7
    replace kb := kb.below hb7
    clear hb7
    have qb := h.bs.top.rd
    have lb := h.bs.top.lt
    have q0 := kb.1.rd
    go_wp2_with fail
    go_still_tail 6, (by kernel_rfl)
    go_wp2_with fail
    refine (li_touch row cl fm (h.below (bel_drew (bel_refl _))) hrc (by omega) hE20).mono ?_
    rintro e w8 ⟨rfl, pk8, f8, h8, x8, ht8⟩
    have HT8 := Lib.hid ht8
    have kb8 := (kb.below (bel_drew (bel_refl _))).ext x8
    have hL8 := (hL7.below (bel_drew (bel_refl _))).ext x8
    clear qb lb q0 x8 ht8
    have h := h8
    have kb := kb8
    obtain ⟨hff, hpk⟩ := stop_pure HT6.out HT8.out
    have HPK := Lib.hid hpk
    clear h8 kb8 hL7 HT6 HT8 hpk
    have qb := h.bs.top.rd
    have lb := h.bs.top.lt
    go_wp2_with fail
    refine (mall_any h.bs.mm (cb7 (by omega))).mono ?_
    rintro e w9 ⟨v9, L9, rfl, hO9, hs9, hm9, hr9, hl9, hb9⟩
    obtain ⟨A9, c9, rfl, _, hc9, hLi9, hA9⟩ := hO9.see
    have hL9 : LN (KMs (stOf f8)) w9 col A9 L9 := h.bs.list hb9 hLi9 (fun b off e => by
      rcases hA9 with ⟨rfl, _⟩ | ⟨g, cur, rfl, hg, _⟩
      · cases e
      · injection e with e
        injection e with e _ _
        omega)
    have HS9 := Lib.hid hs9
    have HM9 := Lib.hid hm9
    have HR9 := Lib.hid hr9
    have hlc9 : L9.length ≤ 9223372036854775807 := by unfold maxLen at hc9; omega
    clear qb lb hO9 hLi9 hA9 hs9 hm9 hr9 hc9 hl9
    have hL10 := hL8.below hb9
    rw [hff] at hL9 HM9
    obtain rfl : L7 = L9 := all_same HS7.out HS9.out HM7.out HM9.out HR7.out HR9.out
    have hWf := bel_call h.bel hb9
    have hMMf := h.bs.mm.below hb9
    have htopf := h.bs.top.below hb9
    have kf := kb.1.below hb9
    have hla := hL10.1
    have hlb := hL9.1
    clear h kb hL8 hb9 hff hL10 hL9 HM7 HM9 HS7 HS9 HR7 HR9
    have hj := bel_refl w9
    go_wp2_with fail
    go_loopw [10] (fun s wr => ∃ k : Nat, k ≤ L7.length ∧ s = .int .i64 k ∧ Below w9.heap.size w9 wr) (fun s _ => L7.length - (intOf s).toNat)
    case atStart => exact ⟨0, Nat.zero_le _, rfl, hj⟩
    case round =>
      obtain ⟨k, hk, rfl, hj2⟩ := hrel
      clear hj
      by_cases hkl : k < L7.length
      · obtain ⟨x, hx⟩ : ∃ x, L7[k]? = some x := ⟨_, List.getElem?_eq_getElem hkl⟩
        obtain ⟨g, off, hAe, hg, c0, c1, c2⟩ := mks_at (hla.below hj2) hx
        obtain ⟨g', off', hAe', hg', e0, e1, e2⟩ := mks_at (hlb.below hj2) hx
        subst hAe hAe'
        have i0 : (0 : Int) ≤ (k : Int) := by omega
        have i1 : (k : Int) < (L7.length : Int) := by omega
        have d0 := fun d os => cell_regrown c0 d os
        have d1 := fun d os => cell_regrown c1 d os
        have d2 := fun d os => cell_regrown c2 d os
        have d3 := fun d os => cell_regrown e0 d os
        have d4 := fun d os => cell_regrown e1 d os
        have d5 := fun d os => cell_regrown e2 d os
        clear hx
        go_wp2_with fail
        refine wp_region_quiet_below (by kernel_rfl) (by kernel_rfl) ?_
        repeat (any_goals (first | go_big_quiet_step ((fail)) | fail))
        refine wpQuiet_nil ?_
        intro w5 hw'
        have hb5 := class_below hw'
        have hj3 := bel_call hj2 hb5
        clear hw' c0 c1 c2 e0 e1 e2 d0 d1 d2 d3 d4 d5 hb5 hg hg'
        go_wp2_with fail
        go_roundw
        case rel => exact ⟨k + 1, by omega, by go_num, hj3⟩
        case measure => simp [intOf]; omega
      obtain rfl : k = L7.length := by omega
      have i2 : ¬ ((L7.length : Int) < (L7.length : Int)) := by omega
      replace hWf := bel_call hWf hj2
      replace hMMf := hMMf.below hj2
      replace htopf := htopf.below hj2
      have q0 := (kf.below hj2).rd
      clear hla hlb hj2 kf hkl
      by_cases h1 : row < 1
      · have d1 : decide (row < 1) = true := decide_eq_true h1
        go_wp2_with fail
        refine (lives_any _).mono ?_
        rintro e w20 ⟨rfl, hb20⟩
        have hW20 := bel_call hWf hb20
        clear hb20
        go_wp2_with fail
        go_ret
        exact ⟨rfl, hW20⟩
      have d1 : decide (row < 1) = false := decide_eq_false h1
      by_cases h2 : 4096 < row
      · have d2 : decide (4096 < row) = true := decide_eq_true h2
        go_wp2_with fail
        refine (lives_any _).mono ?_
        rintro e w20 ⟨rfl, hb20⟩
        have hW20 := bel_call hWf hb20
        clear hb20
        go_wp2_with fail
        go_ret
        exact ⟨rfl, hW20⟩
      have d2 : decide (4096 < row) = false := decide_eq_false h2
      by_cases h3 : cl < 1
      · have d3 : decide (cl < 1) = true := decide_eq_true h3
        go_wp2_with fail
        refine (lives_any _).mono ?_
        rintro e w20 ⟨rfl, hb20⟩
        have hW20 := bel_call hWf hb20
        clear hb20
        go_wp2_with fail
        go_ret
        exact ⟨rfl, hW20⟩
      have d3 : decide (cl < 1) = false := decide_eq_false h3
      by_cases h4 : 256 < cl
      · have d4 : decide (256 < cl) = true := decide_eq_true h4
        go_wp2_with fail
        refine (lives_any _).mono ?_
        rintro e w20 ⟨rfl, hb20⟩
        have hW20 := bel_call hWf hb20
        clear hb20
        go_wp2_with fail
        go_ret
        exact ⟨rfl, hW20⟩
      have d4 : decide (256 < cl) = false := decide_eq_false h4
      have qb := htopf.rd
      have lb := htopf.lt
      go_wp2_with fail
      refine (mpeak_any hMMf).mono ?_
      rintro e w19 ⟨rfl, hb19⟩
      replace hWf := bel_call hWf hb19
      rw [HPK.out (by unfold mayB; exact decide_eq_true (by omega))]
      clear qb lb hb19
      go_wp2_with fail
      refine (lives_any _).mono ?_
      rintro e w20 ⟨rfl, hb20⟩
      have hW20 := bel_call hWf hb20
      clear hb20
      go_wp2_with fail
      go_ret
      exact ⟨rfl, hW20⟩
end Go.Proofs.Ytdionganlmnlkaa

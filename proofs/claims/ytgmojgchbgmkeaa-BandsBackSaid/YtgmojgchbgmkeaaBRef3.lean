/-
  The document's bands: contract of Remove. Conditions: those of each theorem.
-/
import Derived.Test.YtgmojgchbgmkeaaBRef2
namespace Go.Proofs.Ytgmojgchbgmkeaa
open Go.ChangeShapes Go.WideShapes Go.ChangeAt Go.RowKit Go.Deep Go.Sort

/-- What the document's Remove answers. -/
def RRemIs (w : World) (yb B : Nat) (L : List Pr) (p : Pr) (e : Ending) (w' : World) : Prop :=
  (p ∉ L ∧ e = .returned (.bool false) ∧ Below w.heap.size w w') ∨ (p ∈ L ∧ e = .returned (.bool true) ∧ (∃ A' cap', RB w' yb B (L.erase p) A' cap') ∧ w.grownBy w' (some yb))
theorem erase_at {p : Pr} : ∀ {L : List Pr} {i : Nat}, L[i]? = some p → (∀ j : Nat, j < i → L[j]? ≠ some p) → L.erase p = L.take i ++ L.drop (i + 1)
  | [], i, h, _ => by simp at h
  | y :: L, 0, h, _ => by
    simp at h
    subst h
    simp
  | y :: L, i + 1, h, hn => by
    have hy : y ≠ p := fun e => hn 0 (by omega) (by simp [e])
    rw [List.erase_cons_tail (by simpa using hy), erase_at (L := L) (i := i) (by simpa using h) (fun j hj => by have := hn (j + 1) (by omega); simpa using this)]
    simp
theorem rem_len {p : Pr} {L : List Pr} {i : Nat} (hx : L[i]? = some p) : (L.take i ++ L.drop (i + 1)).length = L.length - 1 := by
  have := (List.getElem?_eq_some_iff.1 hx).1
  simp
  omega
theorem rem_see {p : Pr} {L : List Pr} {i : Nat} {w : World} {B : Nat} {v : Value} (hx : L[i]? = some p) (h : OL KE w B v (L.take i ++ L.drop (i + 1))) : ∃ A c, v = .slice A (L.length - 1) c := by
  obtain ⟨A, c, hv, _⟩ := h.see
  rw [rem_len hx] at hv
  exact ⟨A, c, hv⟩
theorem rem_done {p : Pr} {L : List Pr} {i c9 : Nat} {w w9 : World} {yb B cap : Nat} {A A9 : Option Addr} (hx : L[i]? = some p) (hno : ∀ j : Nat, j < i → L[j]? ≠ some p) (h : RB w yb B L A cap) (hBw : B ≤ w.heap.size) (hO : OL KE w9 w.heap.size (.slice A9 (L.length - 1) c9) (L.take i ++ L.drop (i + 1))) (hB : Below w.heap.size w w9) :
    RRemIs w yb B L p (.returned (.bool true)) (w9.setCell ⟨yb, 0, none⟩ (.slice A9 (L.length - 1) c9)) := by
  have hyb := h.top.lt
  refine .inr ⟨List.mem_of_getElem? hx, rfl, ⟨A9, c9, ⟨?_, ?_⟩⟩, grown_set (grown_of_below hB _) (.inl rfl) _⟩
  · rw [erase_at hx hno, rem_len hx]
    exact (h.top.below hB).put 0 _
  · rw [erase_at hx hno, rem_len hx]
    exact (hO.low hBw).set (fun z hz e => by have := (hO.lt z hz).1; omega) 0 _

set_option maxHeartbeats 6400000 in
set_option maxRecDepth 100000 in
theorem rrem_any (yb B : Nat) (L : List Pr) (A : Option Addr) (cap : Nat) (t l b r row col : Int) (w : World) (h : RB w yb B L A cap) (hBw : B ≤ w.heap.size) (hl : (L.length + 1) * 56 ≤ 140737488355328) :
    Calls Try.prog 11 #[.pointer (some ⟨yb, 0, none⟩), .agg #[.int .i64 t, .int .i64 l, .int .i64 b, .int .i64 r], .agg #[.int .i64 row, .int .i64 col]] w (RRemIs w yb B L (⟨row, col, t, l, b, r⟩ : Pr)) := by
  have hyb := h.top.lt
  obtain ⟨hcap, hLi0, hA0⟩ := rb_see h.lst
  go_enter Try.func11, Try.ntmps11
  go_wp2_with fail
  refine (pair_any t l b r row col _).mono ?_
  rintro e w3 ⟨rfl, hb3⟩
  have hW := bel_call (bel_alloc (bel_alloc (bel_refl w) (.cells #[.int .i64 t, .int .i64 l, .int .i64 b, .int .i64 r] 31)) (.cells #[.int .i64 row, .int .i64 col] 33)) hb3
  clear hb3
  go_wp2_with fail
  have k7' := Blk.new w3 rfl 47 #[.int .i64 row, .int .i64 col, .bool true, .int .i64 t, .int .i64 l, .int .i64 b, .int .i64 r]
  have hW' := bel_alloc hW (.cells #[.int .i64 row, .int .i64 col, .bool true, .int .i64 t, .int .i64 l, .int .i64 b, .int .i64 r] 47)
  go_loopw [8] (fun s8 wr => ∃ i : Nat, i ≤ L.length ∧ s8 = .int .i64 i ∧ Hid (∀ j : Nat, j < i → L[j]? ≠ some (⟨row, col, t, l, b, r⟩ : Pr)) ∧ Blk wr w3.heap.size 47 #[.int .i64 row, .int .i64 col, .bool true, .int .i64 t, .int .i64 l, .int .i64 b, .int .i64 r] ∧ Below w.heap.size w wr) (fun s8 _ => L.length - (intOf s8).toNat)
  case atStart => exact ⟨0, Nat.zero_le _, rfl, (show ∀ j : Nat, j < 0 → L[j]? ≠ some (⟨row, col, t, l, b, r⟩ : Pr) from fun j hj => absurd hj (Nat.not_lt_zero _)), k7', hW'⟩
  case round =>
    obtain ⟨i, hi, rfl, HNO, k7, hWr⟩ := hrel
    clear k7' hW' hW
    have htop := h.top.below hWr
    have rdt := htop.rd
    have g7 := k7.gr
    have gt := htop.gr
    by_cases hil : i < L.length
    · obtain ⟨x, hx⟩ : ∃ x, L[i]? = some x := ⟨_, List.getElem?_eq_getElem hil⟩
      obtain ⟨g, off, hAe, hg, c0, c1, c2, c3, c4, c5, c6⟩ := edge_at (hLi0.below hWr) hx
      subst hAe
      have d0 := fun d os => cell_regrown c0 d os
      have d1 := fun d os => cell_regrown c1 d os
      have d2 := fun d os => cell_regrown c2 d os
      have d3 := fun d os => cell_regrown c3 d os
      have d4 := fun d os => cell_regrown c4 d os
      have d5 := fun d os => cell_regrown c5 d os
      have d6 := fun d os => cell_regrown c6 d os
      have heq := fun W => eql_edge W x.row x.col x.t x.l x.b x.r row col t l b r
      obtain ⟨q, hq⟩ : ∃ q, q = decide (x = (⟨row, col, t, l, b, r⟩ : Pr)) := ⟨_, rfl⟩
      have hq2 : decide ((⟨x.row, x.col, x.t, x.l, x.b, x.r⟩ : Pr) = (⟨row, col, t, l, b, r⟩ : Pr)) = q := hq.symm
      rw [hq2] at heq
      have HQ := Lib.hid hq
      have HX0 := Lib.hid hx
      have i0 : (0 : Int) ≤ (i : Int) := by omega
      have i1 : (i : Int) < (L.length : Int) := by omega
      clear hq hq2 hx c0 c1 c2 c3 c4 c5 c6
      go_wp2_with fail
      refine wp_region_quiet_below (by kernel_rfl) (by kernel_rfl) ?_
      repeat (any_goals (first | go_big_quiet_step ((fail)) | fail))
      refine wpQuiet_nil ?_
      intro w5 hw'
      have hb5 := class_below hw'
      clear hw'
      have hWW := bel_call hWr hb5
      have hq7 := k7.below hb5
      have hrq := (h.top.below hWW).rd
      clear hb5 d0 d1 d2 d3 d4 d5 d6 g7 gt heq rdt
      cases q with
      | true =>
        have hxp : x = (⟨row, col, t, l, b, r⟩ : Pr) := of_decide_eq_true HQ.out.symm
        have HX : Hid (L[i]? = some (⟨row, col, t, l, b, r⟩ : Pr)) := (show L[i]? = some (⟨row, col, t, l, b, r⟩ : Pr) from by rw [HX0.out, hxp])
        clear hxp
        have HLT : Hid ((L.take i).length = i) := (show (L.take i).length = i from by simp; omega)
        have HLD : Hid ((L.drop (i + 1)).length = L.length - (i + 1)) := (show (L.drop (i + 1)).length = L.length - (i + 1) from by simp)
        have hz5 : IntKind.i64.wrap ((i : Int) + 1) = ((i + 1 : Nat) : Int) := by rw [IntWalk.i64_in _ (by omega)]; omega
        have i2 : ((i + 1 : Nat) : Int) ≤ (L.length : Int) := by omega
        have i3 : ((i + 1 : Nat) : Int) ≤ (cap : Int) := by omega
        rcases hA0 with hA0 | ⟨ga, hA0, hga1, hga2⟩
        · cases hA0
        injection hA0 with he
        injection he with he1 he2 _
        subst he1 he2
        by_cases hcm : cap = i + 1
        · have hcmT : (cap = i + 1) = True := eq_true hcm
          have hcmT' : (i + 1 = cap) = True := eq_true hcm.symm
          have hXc : Lies KE w (some ⟨g, 0, none⟩) (L.drop (i + 1)) := by
            have hX := hLi0.cut (a := i + 1) hcap
            rw [if_pos hcm] at hX
            exact hX
          clear hcm
          have hX0 : Lies KE w (some ⟨g, 0, none⟩) (L.drop (i + 1)) := hXc
          go_wp2_with (first
            | (at_builtin; (refine wp_ol_append info_ke rfl Try.underlying26 rfl (.tmp 31) (.tmp 37) rfl rfl (OL.nil _ w.heap.size) (M := L.take i) rfl HLT.out ((hLi0.below hWW).take i) (by unfold maxLen; simp; omega) (by simp [KE]; omega) hWW.size ?_); intro v7 w7 hO7 hg7; have hB7 := bel_grown hWW hg7 (fun z hz => by cases hz); have hrt7 := (h.top.below hB7).rd; rw [List.nil_append] at hO7)
            | (at_builtin; (refine wp_ol_append info_ke rfl Try.underlying26 rfl (.tmp 39) (.tmp 46) rfl rfl hO7 (M := L.drop (i + 1)) rfl HLD.out (hX0.below hB7) (by rw [HLT.out]; unfold maxLen; simp; omega) (by rw [HLT.out]; simp [KE]; omega) hB7.size ?_); intro v9 w9 hO9 hg9; have hB9 := bel_grown hB7 hg9 (fun z hz => (hO7.lt z hz).1); have ht9 := h.top.below hB9; have hrt9 := ht9.rd; have hft9 := ht9.fz; have hlt9 := ht9.lt; obtain ⟨A9, c9, hv9⟩ := rem_see HX.out hO9; subst hv9))
          go_ret
          exact rem_done HX.out HNO.out h hBw hO9 hB9

        · have hXc : Lies KE w (some ⟨g, (i + 1) * 7, none⟩) (L.drop (i + 1)) := by
            have hX := hLi0.cut (a := i + 1) hcap
            rw [if_neg hcm] at hX
            exact hX
          have hX0 : Lies KE w (some ⟨g, (i + 1) * 7, none⟩) (L.drop (i + 1)) := hXc
          go_wp2_with (first
            | (at_builtin; (refine wp_ol_append info_ke rfl Try.underlying26 rfl (.tmp 31) (.tmp 37) rfl rfl (OL.nil _ w.heap.size) (M := L.take i) rfl HLT.out ((hLi0.below hWW).take i) (by unfold maxLen; simp; omega) (by simp [KE]; omega) hWW.size ?_); intro v7 w7 hO7 hg7; have hB7 := bel_grown hWW hg7 (fun z hz => by cases hz); have hrt7 := (h.top.below hB7).rd; rw [List.nil_append] at hO7)
            | (at_builtin; (refine wp_ol_append info_ke rfl Try.underlying26 rfl (.tmp 39) (.tmp 46) rfl rfl hO7 (M := L.drop (i + 1)) rfl HLD.out (hX0.below hB7) (by rw [HLT.out]; unfold maxLen; simp; omega) (by rw [HLT.out]; simp [KE]; omega) hB7.size ?_); intro v9 w9 hO9 hg9; have hB9 := bel_grown hB7 hg9 (fun z hz => (hO7.lt z hz).1); have ht9 := h.top.below hB9; have hrt9 := ht9.rd; have hft9 := ht9.fz; have hlt9 := ht9.lt; obtain ⟨A9, c9, hv9⟩ := rem_see HX.out hO9; subst hv9))
          go_ret
          exact rem_done HX.out HNO.out h hBw hO9 hB9

      | false =>
        have HN2 : Hid (∀ j : Nat, j < i + 1 → L[j]? ≠ some (⟨row, col, t, l, b, r⟩ : Pr)) := (show ∀ j : Nat, j < i + 1 → L[j]? ≠ some (⟨row, col, t, l, b, r⟩ : Pr) from fun j hj e => by
          rcases Nat.lt_succ_iff_lt_or_eq.1 hj with hj | rfl
          · exact HNO.out j hj e
          · rw [HX0.out] at e
            exact of_decide_eq_false HQ.out.symm (Option.some.inj e))
        go_wp2_with fail
        go_roundw
        case rel => exact ⟨i + 1, by omega, by go_num, HN2, hq7, hWW⟩
        case measure => simp [intOf]; omega
    · obtain rfl : i = L.length := by omega
      have hnin : (⟨row, col, t, l, b, r⟩ : Pr) ∉ L := fun hm => by
        obtain ⟨j, hj⟩ := List.getElem?_of_mem hm
        exact HNO.out j (List.getElem?_eq_some_iff.1 hj).1 hj
      go_wp2_with fail
      go_ret
      exact .inl ⟨hnin, rfl, hWr⟩
end Go.Proofs.Ytgmojgchbgmkeaa

/-
  The document's deps: contracts of may, numbers, ahead. Conditions: those of each theorem.
-/
import Derived.Test.YtdionganlmnlkaaDHelp
import Derived.Test.YtdionganlmnlkaaDState
import Derived.Test.YtdionganlmnlkaaGp
namespace Go.Proofs.Ytdionganlmnlkaa
open Go.ChangeShapes Go.WideShapes Go.ChangeAt Go.RowKit Go.Deep
attribute [local go_sem] Cls

theorem rdmay_any (m : Bool) (t l b r : Int) (w : World) :
    Calls Try.prog 42 #[.agg #[.bool m, .int .i64 t, .int .i64 l, .int .i64 b, .int .i64 r]] w fun e w' => e = .returned (.bool (okR ⟨m, t, l, b, r⟩)) ∧ Below w.heap.size w w' := by
  obtain ⟨B, hB0⟩ : ∃ B, B = okR ⟨m, t, l, b, r⟩ := ⟨_, rfl⟩
  rw [← hB0]
  unfold okR at hB0
  dsimp only at hB0
  have HB := Lib.hid hB0
  clear hB0
  have hr := fun W => rmayrect_any t l b r W
  have k1 := Blk.new w rfl 53 #[.bool m, .int .i64 t, .int .i64 l, .int .i64 b, .int .i64 r]
  have hW := bel_alloc (bel_refl w) (.cells #[.bool m, .int .i64 t, .int .i64 l, .int .i64 b, .int .i64 r] 53)
  go_enter Try.func42, Try.ntmps42
  go_wp2_with fail
  refine (hr _).mono ?_
  rintro e w2 ⟨rfl, hb⟩
  replace k1 := k1.below hb
  replace hW := bel_call hW hb
  have rd := k1.rd
  have lt := k1.lt
  clear hb hr
  obtain ⟨mr, hmr⟩ : ∃ mr, mr = mayR t l b r := ⟨_, rfl⟩
  have HMR := Lib.hid hmr
  rw [← hmr]
  clear hmr
  by_cases h2 : t = b
  · by_cases h3 : l = r
    · subst h2 h3
      cases mr with
      | false =>
        go_wp2_with fail
        go_ret
        exact ⟨by rw [HB.out, ← HMR.out, Bool.false_and]; rfl, hW⟩
      | true =>
        cases m with
        | true =>
          go_wp2_with fail
          go_ret
          exact ⟨by rw [HB.out, ← HMR.out]; rfl, hW⟩
        | false =>
          go_wp2_with fail
          go_ret
          exact ⟨by rw [HB.out, ← HMR.out]; simp, hW⟩
    · have h3' : (l == r) = false := by rw [beq_eq_false_iff_ne]; exact h3
      have H3 := Lib.hid h3
      subst h2
      clear h3
      cases mr with
      | false =>
        go_wp2_with fail
        go_ret
        exact ⟨by rw [HB.out, ← HMR.out, Bool.false_and]; rfl, hW⟩
      | true =>
        cases m with
        | true =>
          go_wp2_with fail
          go_ret
          exact ⟨by rw [HB.out, ← HMR.out]; rfl, hW⟩
        | false =>
          go_wp2_with fail
          go_ret
          exact ⟨by rw [HB.out, ← HMR.out]; simp [H3.out], hW⟩
  · have h2' : (t == b) = false := by rw [beq_eq_false_iff_ne]; exact h2
    have H2 := Lib.hid h2
    clear h2
    cases mr with
    | false =>
      go_wp2_with fail
      go_ret
      exact ⟨by rw [HB.out, ← HMR.out, Bool.false_and]; rfl, hW⟩
    | true =>
      cases m with
      | true =>
        go_wp2_with fail
        go_ret
        exact ⟨by rw [HB.out, ← HMR.out]; rfl, hW⟩
      | false =>
        go_wp2_with fail
        go_ret
        exact ⟨by rw [HB.out, ← HMR.out]; simp [H2.out], hW⟩

set_option maxHeartbeats 1600000 in
theorem numbers_any (xw xc xt xl xb xr : Int) (xm : Bool) (w : World) :
    Calls Try.prog 57 #[.agg #[.int .i64 xw, .int .i64 xc, .bool xm, .int .i64 xt, .int .i64 xl, .int .i64 xb, .int .i64 xr]] w fun e w' => e = .returned (.agg #[.int .i64 xw, .int .i64 xc, .int .i64 xt, .int .i64 xl, .int .i64 xb, .int .i64 xr, .int .i64 (bI xm)]) ∧ Below w.heap.size w w' := by
  cases xm with
  | true =>
    go_enter Try.func57, Try.ntmps57
    go_wp2_with fail
    refine bodyPost_ret (v := .agg #[.int .i64 xw, .int .i64 xc, .int .i64 xt, .int .i64 xl, .int .i64 xb, .int .i64 xr, .int .i64 1]) (by simp [results, Try.results57, go_sem]) rfl ⟨rfl, ?_⟩
    exact bel_alloc (bel_alloc (bel_alloc (bel_refl w) _) _) _
  | false =>
    go_enter Try.func57, Try.ntmps57
    go_wp2_with fail
    refine bodyPost_ret (v := .agg #[.int .i64 xw, .int .i64 xc, .int .i64 xt, .int .i64 xl, .int .i64 xb, .int .i64 xr, .int .i64 0]) (by simp [results, Try.results57, go_sem]) rfl ⟨rfl, ?_⟩
    exact bel_alloc (bel_alloc (bel_alloc (bel_refl w) _) _) _
/-- The first place where two rows differ. -/
def lexL : List Int → List Int → Bool
  | x :: X, y :: Y => if x = y then lexL X Y else decide (x < y)
  | _, _ => false
def nums (x : Ed) : List Int := [x.row, x.col, x.t, x.l, x.b, x.r, bI x.m]
theorem lexL_drop {X Y : List Int} {k : Nat} {x y : Int} (hx : X[k]? = some x) (hy : Y[k]? = some y) : lexL (X.drop k) (Y.drop k) = if x = y then lexL (X.drop (k + 1)) (Y.drop (k + 1)) else decide (x < y) := by
  obtain ⟨h1, rfl⟩ := List.getElem?_eq_some_iff.1 hx
  obtain ⟨h2, rfl⟩ := List.getElem?_eq_some_iff.1 hy
  rw [List.drop_eq_getElem_cons h1, List.drop_eq_getElem_cons h2]
  rfl
theorem lexL_ltE (x y : Ed) : lexL (nums x) (nums y) = decide (ltE x y) := by
  have hx := bI_cases x.m
  have hy := bI_cases y.m
  unfold nums lexL lexL lexL lexL lexL lexL lexL lexL ltE
  repeat' split
  all_goals (first | (refine decide_eq_decide.2 ?_; omega) | (refine (decide_eq_false ?_).symm; omega))
theorem num_at {w : World} {g : Nat} {t : TypeId} {x : Ed} (h : Blk w g t #[.int .i64 x.row, .int .i64 x.col, .int .i64 x.t, .int .i64 x.l, .int .i64 x.b, .int .i64 x.r, .int .i64 (bI x.m)]) {k : Nat} {v : Int} (hk : (nums x)[k]? = some v) : w.cell? ⟨g, k, none⟩ = some (.int .i64 v) := by
  rw [h.rd k]
  have : (#[.int .i64 x.row, .int .i64 x.col, .int .i64 x.t, .int .i64 x.l, .int .i64 x.b, .int .i64 x.r, .int .i64 (bI x.m)] : Array Value) = ((nums x).map (Value.int .i64)).toArray := rfl
  rw [this, List.getElem?_toArray, List.getElem?_map, hk]
  rfl
set_option maxHeartbeats 3200000 in
set_option maxRecDepth 100000 in
theorem rahead_any (xw xc xt xl xb xr : Int) (xm : Bool) (yw yc yt yl yb yr : Int) (ym : Bool) (w : World) :
    Calls Try.prog 43 #[.agg #[.int .i64 xw, .int .i64 xc, .bool xm, .int .i64 xt, .int .i64 xl, .int .i64 xb, .int .i64 xr], .agg #[.int .i64 yw, .int .i64 yc, .bool ym, .int .i64 yt, .int .i64 yl, .int .i64 yb, .int .i64 yr]] w fun e w' => e = .returned (.bool (decide (ltE (⟨xw, xc, xm, xt, xl, xb, xr⟩ : Ed) (⟨yw, yc, ym, yt, yl, yb, yr⟩ : Ed)))) ∧ Below w.heap.size w w' := by
  obtain ⟨R, hR⟩ : ∃ R, R = decide (ltE (⟨xw, xc, xm, xt, xl, xb, xr⟩ : Ed) (⟨yw, yc, ym, yt, yl, yb, yr⟩ : Ed)) := ⟨_, rfl⟩
  rw [← hR]
  rw [← lexL_ltE] at hR
  have HR := Lib.hid hR
  clear hR
  go_enter Try.func43, Try.ntmps43
  go_wp2_with fail
  refine (numbers_any xw xc xt xl xb xr xm _).mono ?_
  rintro e w1 ⟨rfl, hb1⟩
  have kb := (Blk.new (w.alloc (.cells #[.int .i64 xw, .int .i64 xc, .bool xm, .int .i64 xt, .int .i64 xl, .int .i64 xb, .int .i64 xr] 55)) (g := w.heap.size + 1) (by simp) 55 #[.int .i64 yw, .int .i64 yc, .bool ym, .int .i64 yt, .int .i64 yl, .int .i64 yb, .int .i64 yr]).below hb1
  have hW := bel_call (bel_alloc (bel_alloc (bel_refl w) (.cells #[.int .i64 xw, .int .i64 xc, .bool xm, .int .i64 xt, .int .i64 xl, .int .i64 xb, .int .i64 xr] 55)) (.cells #[.int .i64 yw, .int .i64 yc, .bool ym, .int .i64 yt, .int .i64 yl, .int .i64 yb, .int .i64 yr] 55)) hb1
  clear hb1
  have rdb := kb.rd
  have ltb := kb.lt
  go_wp2_with fail
  have k5 := Blk.new w1 rfl 109 #[.int .i64 xw, .int .i64 xc, .int .i64 xt, .int .i64 xl, .int .i64 xb, .int .i64 xr, .int .i64 (bI xm)]
  have hW1 := bel_alloc hW (.cells #[.int .i64 xw, .int .i64 xc, .int .i64 xt, .int .i64 xl, .int .i64 xb, .int .i64 xr, .int .i64 (bI xm)] 109)
  refine (numbers_any yw yc yt yl yb yr ym _).mono ?_
  rintro e w2 ⟨rfl, hb2⟩
  replace k5 := k5.below hb2
  have hW2 := bel_call hW1 hb2
  clear hb2 kb rdb ltb hW hW1
  go_wp2_with fail
  have k6 := Blk.new w2 rfl 109 #[.int .i64 yw, .int .i64 yc, .int .i64 yt, .int .i64 yl, .int .i64 yb, .int .i64 yr, .int .i64 (bI ym)]
  have k5' := k5.alloc (.cells #[.int .i64 yw, .int .i64 yc, .int .i64 yt, .int .i64 yl, .int .i64 yb, .int .i64 yr, .int .i64 (bI ym)] 109)
  have hW3 := bel_alloc hW2 (.cells #[.int .i64 yw, .int .i64 yc, .int .i64 yt, .int .i64 yl, .int .i64 yb, .int .i64 yr, .int .i64 (bI ym)] 109)
  go_loopw [7] (fun s7 wr => ∃ k : Nat, k ≤ 7 ∧ s7 = .int .i64 k ∧ Hid (R = lexL ((nums (⟨xw, xc, xm, xt, xl, xb, xr⟩ : Ed)).drop k) ((nums (⟨yw, yc, ym, yt, yl, yb, yr⟩ : Ed)).drop k)) ∧ Blk wr w1.heap.size 109 #[.int .i64 xw, .int .i64 xc, .int .i64 xt, .int .i64 xl, .int .i64 xb, .int .i64 xr, .int .i64 (bI xm)] ∧ Blk wr w2.heap.size 109 #[.int .i64 yw, .int .i64 yc, .int .i64 yt, .int .i64 yl, .int .i64 yb, .int .i64 yr, .int .i64 (bI ym)] ∧ Below w.heap.size w wr) (fun s7 _ => 7 - (intOf s7).toNat)
  case atStart => exact ⟨0, by omega, rfl, HR, k5', k6, hW3⟩
  case round =>
    clear k5 k6 k5' hW2 hW3 HR
    obtain ⟨k, hk, rfl, HR, k5, k6, hW⟩ := hrel
    by_cases hkl : k < 7
    · obtain ⟨u, hu⟩ : ∃ u, (nums (⟨xw, xc, xm, xt, xl, xb, xr⟩ : Ed))[k]? = some u := ⟨_, List.getElem?_eq_getElem hkl⟩
      obtain ⟨v, hv⟩ : ∃ v, (nums (⟨yw, yc, ym, yt, yl, yb, yr⟩ : Ed))[k]? = some v := ⟨_, List.getElem?_eq_getElem hkl⟩
      have c0 := num_at (x := (⟨xw, xc, xm, xt, xl, xb, xr⟩ : Ed)) k5 hu
      have c1 := num_at (x := (⟨yw, yc, ym, yt, yl, yb, yr⟩ : Ed)) k6 hv
      have d0 := fun d os => cell_regrown c0 d os
      have d1 := fun d os => cell_regrown c1 d os
      have l0 := k5.lt
      have l1 := k6.lt
      have hd := lexL_drop hu hv
      rw [← HR.out] at hd
      have HD := Lib.hid hd
      have i0 : (0 : Int) ≤ (k : Int) := by omega
      have i1 : (k : Int) < 7 := by omega
      obtain ⟨q, hq⟩ : ∃ q, q = (u != v) := ⟨_, rfl⟩
      have HQ := Lib.hid hq
      have hq' : (u != v) = q := hq.symm
      have HU := Lib.hid hu
      have HV := Lib.hid hv
      clear hd hu hv c0 c1 HR hq
      go_wp2_with fail
      refine wp_region_quiet_below (by kernel_rfl) (by kernel_rfl) ?_
      repeat (any_goals (first | go_big_quiet_step ((fail)) | fail))
      refine wpQuiet_nil ?_
      intro w5 hw'
      have hb5 := class_below hw'
      clear hw' d0 d1
      cases q with
      | true =>
        have hfin : decide (u < v) = R := by
          rw [HD.out, if_neg]
          intro e
          subst e
          have := HQ.out
          simp at this
        have c0 := (hb5.cell l0).trans (num_at (x := (⟨xw, xc, xm, xt, xl, xb, xr⟩ : Ed)) k5 HU.out)
        have c1 := (hb5.cell l1).trans (num_at (x := (⟨yw, yc, ym, yt, yl, yb, yr⟩ : Ed)) k6 HV.out)
        have d0 := fun d os => cell_regrown c0 d os
        have d1 := fun d os => cell_regrown c1 d os
        have hW5 := bel_call hW hb5
        clear c0 c1 hb5
        go_wp2_with fail
        refine wp_region_quiet_below (by kernel_rfl) (by kernel_rfl) ?_
        repeat (any_goals (first | go_big_quiet_step ((fail)) | fail))
        refine wpQuiet_nil ?_
        intro w6 hw'
        have hb6 := class_below hw'
        clear hw' d0 d1
        go_wp2_with fail
        go_ret
        exact ⟨rfl, bel_call hW5 hb6⟩
      | false =>
        have HR2 : Hid (R = lexL ((nums (⟨xw, xc, xm, xt, xl, xb, xr⟩ : Ed)).drop (k + 1)) ((nums (⟨yw, yc, ym, yt, yl, yb, yr⟩ : Ed)).drop (k + 1))) := Lib.hid (by
          rw [HD.out, if_pos]
          have := HQ.out
          simpa using this.symm)
        go_wp2_with fail
        go_roundw
        case rel => exact ⟨k + 1, by omega, by go_num, HR2, k5.below hb5, k6.below hb5, bel_call hW hb5⟩
        case measure => simp [intOf]; omega
    · obtain rfl : k = 7 := by omega
      have hR : R = false := HR.out
      subst hR
      go_wp2_with fail
      go_ret
      exact ⟨rfl, hW⟩
end Go.Proofs.Ytdionganlmnlkaa

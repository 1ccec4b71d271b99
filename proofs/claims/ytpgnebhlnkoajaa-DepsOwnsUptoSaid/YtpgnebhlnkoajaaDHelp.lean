/-
  Deps: the law's own helpers: two lists compared. Conditions: those of each theorem.
-/
import Derived.Test.YtpgnebhlnkoajaaDState
namespace Go.Proofs.Ytpgnebhlnkoajaa
open Go.ChangeShapes Go.WideShapes Go.ChangeAt Go.RowKit Go.Deep
attribute [local go_sem] Cls

theorem ed_at {w : World} {A : Option Addr} {L : List Ed} (h : Lies KD w A L) {i : Nat} {x : Ed} (hx : L[i]? = some x) : ∃ g off, A = some ⟨g, off, none⟩ ∧ g < w.heap.size ∧ w.cell? ⟨g, off + i * 7, none⟩ = some (.int .i64 x.row) ∧ w.cell? ⟨g, off + i * 7 + 1, none⟩ = some (.int .i64 x.col) ∧ w.cell? ⟨g, off + i * 7 + 2, none⟩ = some (.bool x.m) ∧ w.cell? ⟨g, off + i * 7 + 3, none⟩ = some (.int .i64 x.t) ∧ w.cell? ⟨g, off + i * 7 + 4, none⟩ = some (.int .i64 x.l) ∧ w.cell? ⟨g, off + i * 7 + 5, none⟩ = some (.int .i64 x.b) ∧ w.cell? ⟨g, off + i * 7 + 6, none⟩ = some (.int .i64 x.r) := by
  obtain ⟨g, off, h1, h2, h3⟩ := h i x hx
  exact ⟨g, off, h1, h2, h3 0 _ rfl, h3 1 _ rfl, h3 2 _ rfl, h3 3 _ rfl, h3 4 _ rfl, h3 5 _ rfl, h3 6 _ rfl⟩
set_option maxHeartbeats 3200000 in
theorem equal_ed (w : World) (xw xc xt xl xb xr yw yc yt yl yb yr : Int) (xm ym : Bool) : (Op.equalIn (9996 + 4) 51 (.agg #[.int .i64 xw, .int .i64 xc, .bool xm, .int .i64 xt, .int .i64 xl, .int .i64 xb, .int .i64 xr]) (.agg #[.int .i64 yw, .int .i64 yc, .bool ym, .int .i64 yt, .int .i64 yl, .int .i64 yb, .int .i64 yr])).run Try.prog w = .ok (decide ((⟨xw, xc, xm, xt, xl, xb, xr⟩ : Ed) = ⟨yw, yc, ym, yt, yl, yb, yr⟩)) w := by
  by_cases h1 : xw = yw
  case neg => simp [go_sem, h1]
  subst h1
  by_cases h2 : xc = yc
  case neg => simp [go_sem, h2]
  subst h2
  by_cases h0 : xm = ym
  case neg => cases xm <;> cases ym <;> first | (exact absurd rfl h0) | simp [go_sem]
  subst h0
  by_cases h3 : xt = yt
  case neg => cases xm <;> simp [go_sem, h3]
  subst h3
  by_cases h4 : xl = yl
  case neg => cases xm <;> simp [go_sem, h4]
  subst h4
  by_cases h5 : xb = yb
  case neg => cases xm <;> simp [go_sem, h5]
  subst h5
  by_cases h6 : xr = yr
  case neg => cases xm <;> simp [go_sem, h6]
  subst h6
  cases xm <;> simp [go_sem]
theorem eql_ed (w : World) (xw xc xt xl xb xr yw yc yt yl yb yr : Int) (xm ym : Bool) : (binOp .eql 51 (.agg #[.int .i64 xw, .int .i64 xc, .bool xm, .int .i64 xt, .int .i64 xl, .int .i64 xb, .int .i64 xr]) (.agg #[.int .i64 yw, .int .i64 yc, .bool ym, .int .i64 yt, .int .i64 yl, .int .i64 yb, .int .i64 yr])).run Try.prog w = .ok (.bool (decide ((⟨xw, xc, xm, xt, xl, xb, xr⟩ : Ed) = ⟨yw, yc, ym, yt, yl, yb, yr⟩))) w := by
  rw [run_eql_struct, show (10000 : Nat) = 9996 + 4 from rfl, equal_ed]
  rfl
theorem neq_ed (w : World) (xw xc xt xl xb xr yw yc yt yl yb yr : Int) (xm ym : Bool) : (binOp .neq 51 (.agg #[.int .i64 xw, .int .i64 xc, .bool xm, .int .i64 xt, .int .i64 xl, .int .i64 xb, .int .i64 xr]) (.agg #[.int .i64 yw, .int .i64 yc, .bool ym, .int .i64 yt, .int .i64 yl, .int .i64 yb, .int .i64 yr])).run Try.prog w = .ok (.bool (!decide ((⟨xw, xc, xm, xt, xl, xb, xr⟩ : Ed) = ⟨yw, yc, ym, yt, yl, yb, yr⟩))) w := by
  rw [run_neq_struct, show (10000 : Nat) = 9996 + 4 from rfl, equal_ed]
  rfl
set_option maxHeartbeats 3200000 in
set_option maxRecDepth 100000 in
theorem dcells_any (L : List Cl) (A B : Option Addr) (ca cb : Nat) (w : World) (hA : Lies KC w A L) (hB : Lies KC w B L) (hlen : L.length ≤ 4611686018427387904) :
    Calls Try.prog 14 #[.slice A L.length ca, .slice B L.length cb] w fun e w' => e = .returned (.bool true) ∧ Below w.heap.size w w' := by
  go_enter Try.func14, Try.ntmps14
  go_wp2_with fail
  go_loopw [5] (fun s5 wr => ∃ i : Nat, i ≤ L.length ∧ s5 = .int .i64 i ∧ Below w.heap.size w wr) (fun s5 _ => L.length - (intOf s5).toNat)
  case atStart => exact ⟨0, Nat.zero_le _, rfl, bel_refl w⟩
  case round =>
    obtain ⟨i, hi, rfl, hW⟩ := hrel
    by_cases hil : i < L.length
    · obtain ⟨x, hx⟩ : ∃ x, L[i]? = some x := ⟨_, List.getElem?_eq_getElem hil⟩
      obtain ⟨ga, oa, hAe, hga, a0, a1⟩ := cl_at (hA.below hW) hx
      obtain ⟨gb, ob, hBe, hgb, b0, b1⟩ := cl_at (hB.below hW) hx
      subst hAe hBe
      have d0 := fun d os => cell_regrown a0 d os
      have f0 := fun d os => cell_regrown b0 d os
      have d1 := fun d os => cell_regrown a1 d os
      have f1 := fun d os => cell_regrown b1 d os
      have hE : ∀ W, (binOp .neq 33 (.agg #[.int .i64 x.row, .int .i64 x.col]) (.agg #[.int .i64 x.row, .int .i64 x.col])).run Try.prog W = .ok (.bool false) W := fun W => by
        rw [neq_cell W x.row x.col x.row x.col]
        simp
      have i0 : (0 : Int) ≤ (i : Int) := by omega
      have i1 : (i : Int) < (L.length : Int) := by omega
      clear a0 b0 a1 b1 hx
      go_wp2_with fail
      refine wp_region_quiet_below (by kernel_rfl) (by kernel_rfl) ?_
      repeat (any_goals (first | go_big_quiet_step ((fail)) | fail))
      refine wpQuiet_nil ?_
      intro w5 hw'
      have hb5 := class_below hw'
      clear hw' d0 f0 d1 f1 hE
      go_wp2_with fail
      go_roundw
      case rel => exact ⟨i + 1, by omega, by go_num, bel_call hW hb5⟩
      case measure => simp [intOf]; omega
    · obtain rfl : i = L.length := by omega
      go_wp2_with fail
      go_ret
      exact ⟨rfl, hW⟩
set_option maxHeartbeats 3200000 in
set_option maxRecDepth 100000 in
theorem dedges_same (L : List Ed) (A B : Option Addr) (ca cb : Nat) (w : World) (hA : Lies KD w A L) (hB : Lies KD w B L) (hlen : L.length ≤ 4611686018427387904) :
    Calls Try.prog 17 #[.slice A L.length ca, .slice B L.length cb] w fun e w' => e = .returned (.bool true) ∧ Below w.heap.size w w' := by
  go_enter Try.func17, Try.ntmps17
  go_wp2_with fail
  go_loopw [5] (fun s5 wr => ∃ i : Nat, i ≤ L.length ∧ s5 = .int .i64 i ∧ Below w.heap.size w wr) (fun s5 _ => L.length - (intOf s5).toNat)
  case atStart => exact ⟨0, Nat.zero_le _, rfl, bel_refl w⟩
  case round =>
    obtain ⟨i, hi, rfl, hW⟩ := hrel
    by_cases hil : i < L.length
    · obtain ⟨x, hx⟩ : ∃ x, L[i]? = some x := ⟨_, List.getElem?_eq_getElem hil⟩
      obtain ⟨ga, oa, hAe, hga, a0, a1, a2, a3, a4, a5, a6⟩ := ed_at (hA.below hW) hx
      obtain ⟨gb, ob, hBe, hgb, b0, b1, b2, b3, b4, b5, b6⟩ := ed_at (hB.below hW) hx
      subst hAe hBe
      have d0 := fun d os => cell_regrown a0 d os
      have f0 := fun d os => cell_regrown b0 d os
      have d1 := fun d os => cell_regrown a1 d os
      have f1 := fun d os => cell_regrown b1 d os
      have d2 := fun d os => cell_regrown a2 d os
      have f2 := fun d os => cell_regrown b2 d os
      have d3 := fun d os => cell_regrown a3 d os
      have f3 := fun d os => cell_regrown b3 d os
      have d4 := fun d os => cell_regrown a4 d os
      have f4 := fun d os => cell_regrown b4 d os
      have d5 := fun d os => cell_regrown a5 d os
      have f5 := fun d os => cell_regrown b5 d os
      have d6 := fun d os => cell_regrown a6 d os
      have f6 := fun d os => cell_regrown b6 d os
      have hE : ∀ W, (binOp .neq 51 (.agg #[.int .i64 x.row, .int .i64 x.col, .bool x.m, .int .i64 x.t, .int .i64 x.l, .int .i64 x.b, .int .i64 x.r]) (.agg #[.int .i64 x.row, .int .i64 x.col, .bool x.m, .int .i64 x.t, .int .i64 x.l, .int .i64 x.b, .int .i64 x.r])).run Try.prog W = .ok (.bool false) W := fun W => by
        rw [neq_ed W x.row x.col x.t x.l x.b x.r x.row x.col x.t x.l x.b x.r x.m x.m]
        simp
      have i0 : (0 : Int) ≤ (i : Int) := by omega
      have i1 : (i : Int) < (L.length : Int) := by omega
      clear a0 b0 a1 b1 a2 b2 a3 b3 a4 b4 a5 b5 a6 b6 hx
      go_wp2_with fail
      refine wp_region_quiet_below (by kernel_rfl) (by kernel_rfl) ?_
      repeat (any_goals (first | go_big_quiet_step ((fail)) | fail))
      refine wpQuiet_nil ?_
      intro w5 hw'
      have hb5 := class_below hw'
      clear hw' d0 f0 d1 f1 d2 f2 d3 f3 d4 f4 d5 f5 d6 f6 hE
      go_wp2_with fail
      go_roundw
      case rel => exact ⟨i + 1, by omega, by go_num, bel_call hW hb5⟩
      case measure => simp [intOf]; omega
    · obtain rfl : i = L.length := by omega
      go_wp2_with fail
      go_ret
      exact ⟨rfl, hW⟩
end Go.Proofs.Ytpgnebhlnkoajaa

/-
  Deps: the law's own helpers: two lists compared. Conditions: those of each theorem.
-/
import Derived.Test.YtdionganlmnlkaaDState
namespace Go.Proofs.Ytdionganlmnlkaa
open Go.ChangeShapes Go.WideShapes Go.ChangeAt Go.RowKit Go.Deep
attribute [local go_sem] Cls

theorem ed_at {w : World} {A : Option Addr} {L : List Ed} (h : Lies KD w A L) {i : Nat} {x : Ed} (hx : L[i]? = some x) : ∃ g off, A = some ⟨g, off, none⟩ ∧ g < w.heap.size ∧ w.cell? ⟨g, off + i * 7, none⟩ = some (.int .i64 x.row) ∧ w.cell? ⟨g, off + i * 7 + 1, none⟩ = some (.int .i64 x.col) ∧ w.cell? ⟨g, off + i * 7 + 2, none⟩ = some (.bool x.m) ∧ w.cell? ⟨g, off + i * 7 + 3, none⟩ = some (.int .i64 x.t) ∧ w.cell? ⟨g, off + i * 7 + 4, none⟩ = some (.int .i64 x.l) ∧ w.cell? ⟨g, off + i * 7 + 5, none⟩ = some (.int .i64 x.b) ∧ w.cell? ⟨g, off + i * 7 + 6, none⟩ = some (.int .i64 x.r) := by
  obtain ⟨g, off, h1, h2, h3⟩ := h i x hx
  exact ⟨g, off, h1, h2, h3 0 _ rfl, h3 1 _ rfl, h3 2 _ rfl, h3 3 _ rfl, h3 4 _ rfl, h3 5 _ rfl, h3 6 _ rfl⟩
set_option maxHeartbeats 3200000 in
theorem equal_ed (w : World) (xw xc xt xl xb xr yw yc yt yl yb yr : Int) (xm ym : Bool) : (Op.equalIn (9996 + 4) 55 (.agg #[.int .i64 xw, .int .i64 xc, .bool xm, .int .i64 xt, .int .i64 xl, .int .i64 xb, .int .i64 xr]) (.agg #[.int .i64 yw, .int .i64 yc, .bool ym, .int .i64 yt, .int .i64 yl, .int .i64 yb, .int .i64 yr])).run Try.prog w = .ok (decide ((⟨xw, xc, xm, xt, xl, xb, xr⟩ : Ed) = ⟨yw, yc, ym, yt, yl, yb, yr⟩)) w := by
  by_cases h1 : xw = yw
  case neg => simp [go_sem, h1]
  subst h1
  by_cases h2 : xc = yc
  case neg => simp [go_sem, h2]
  subst h2
  by_cases h0 : xm = ym
  case neg => cases xm <;> cases ym <;> first | (exact absurd rfl h0) | simp [go_sem]
  subst h0
  by_cases h3 : xt = yt
  case neg => cases xm <;> simp [go_sem, h3]
  subst h3
  by_cases h4 : xl = yl
  case neg => cases xm <;> simp [go_sem, h4]
  subst h4
  by_cases h5 : xb = yb
  case neg => cases xm <;> simp [go_sem, h5]
  subst h5
  by_cases h6 : xr = yr
  case neg => cases xm <;> simp [go_sem, h6]
  subst h6
  cases xm <;> simp [go_sem]
theorem eql_ed (w : World) (xw xc xt xl xb xr yw yc yt yl yb yr : Int) (xm ym : Bool) : (binOp .eql 55 (.agg #[.int .i64 xw, .int .i64 xc, .bool xm, .int .i64 xt, .int .i64 xl, .int .i64 xb, .int .i64 xr]) (.agg #[.int .i64 yw, .int .i64 yc, .bool ym, .int .i64 yt, .int .i64 yl, .int .i64 yb, .int .i64 yr])).run Try.prog w = .ok (.bool (decide ((⟨xw, xc, xm, xt, xl, xb, xr⟩ : Ed) = ⟨yw, yc, ym, yt, yl, yb, yr⟩))) w := by
  rw [run_eql_struct, show (10000 : Nat) = 9996 + 4 from rfl, equal_ed]
  rfl
theorem neq_ed (w : World) (xw xc xt xl xb xr yw yc yt yl yb yr : Int) (xm ym : Bool) : (binOp .neq 55 (.agg #[.int .i64 xw, .int .i64 xc, .bool xm, .int .i64 xt, .int .i64 xl, .int .i64 xb, .int .i64 xr]) (.agg #[.int .i64 yw, .int .i64 yc, .bool ym, .int .i64 yt, .int .i64 yl, .int .i64 yb, .int .i64 yr])).run Try.prog w = .ok (.bool (!decide ((⟨xw, xc, xm, xt, xl, xb, xr⟩ : Ed) = ⟨yw, yc, ym, yt, yl, yb, yr⟩))) w := by
  rw [run_neq_struct, show (10000 : Nat) = 9996 + 4 from rfl, equal_ed]
  rfl
end Go.Proofs.Ytdionganlmnlkaa

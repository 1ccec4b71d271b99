/-
  Bands: equality of cells; a cell of a list. Conditions: those of each theorem.
-/
import Derived.Test.YtpgnebhlnkoajaaBRem
import Derived.Test.YtpgnebhlnkoajaaQb
namespace Go.Proofs.Ytpgnebhlnkoajaa
open Go.ChangeShapes Go.WideShapes Go.ChangeAt Go.RowKit Go.Deep

theorem eql_cell (w : World) (a b c d : Int) : (binOp .eql 33 (.agg #[.int .i64 a, .int .i64 b]) (.agg #[.int .i64 c, .int .i64 d])).run Try.prog w = .ok (.bool (decide ((⟨a, b⟩ : Cl) = ⟨c, d⟩))) w := by
  have h : (Op.equalIn (9998 + 2) 33 (.agg #[.int .i64 a, .int .i64 b]) (.agg #[.int .i64 c, .int .i64 d])).run Try.prog w = .ok (decide ((⟨a, b⟩ : Cl) = ⟨c, d⟩)) w := by
    by_cases h1 : a = c
    · by_cases h2 : b = d
      · simp [go_sem, h1, h2]
      · simp [go_sem, h1, h2]
    · simp [go_sem, h1]
  rw [run_eql_struct, show (10000 : Nat) = 9998 + 2 from rfl, h]
  rfl
theorem cl_at {w : World} {A : Option Addr} {L : List Cl} (h : Lies KC w A L) {i : Nat} {x : Cl} (hx : L[i]? = some x) : ∃ g off, A = some ⟨g, off, none⟩ ∧ g < w.heap.size ∧ w.cell? ⟨g, off + i * 2, none⟩ = some (.int .i64 x.row) ∧ w.cell? ⟨g, off + i * 2 + 1, none⟩ = some (.int .i64 x.col) := by
  obtain ⟨g, off, h1, h2, h3⟩ := h i x hx
  exact ⟨g, off, h1, h2, h3 0 _ rfl, h3 1 _ rfl⟩

end Go.Proofs.Ytpgnebhlnkoajaa

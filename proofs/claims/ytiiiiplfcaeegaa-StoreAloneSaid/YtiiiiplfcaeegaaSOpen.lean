/-
  How the arguments of the store's laws open: a list of cells, a rectangle, a cell. Conditions: those of each theorem.
-/
import Derived.Test.YtiiiiplfcaeegaaSOrd
import Derived.Lib.SmallJoins
namespace Go.Proofs.Ytiiiiplfcaeegaa
open Go.ChangeShapes Go.WideShapes Go.ChangeAt Go.RowKit Go.Joins

section
variable {H : Type} {enc : TypeId × Value → H} {W : World} {r : Reach} {b0 base : Nat} {sp : Nat → Bool} {hd : Bool} {v : Value} {d : DataW H} {p : List MemPlace}
theorem open_cell (hv : Value.okWide Try.prog W r b0 41 v) (h : DataW.Trod enc Try.prog W base sp hd 41 v d p) :
    ∃ x y : Int, v = .agg #[.int .i64 x, .int .i64 y] ∧ (-9223372036854775808 ≤ x ∧ x ≤ 9223372036854775807) ∧ (-9223372036854775808 ≤ y ∧ y ≤ 9223372036854775807) := by
  obtain ⟨cs, rfl, hsz⟩ := okWide_struct Try.underlying41 hv
  obtain ⟨u0, u1, rfl⟩ := array2 (hsz.trans (by kernel_rfl))
  obtain ⟨fuel, hf⟩ := h
  obtain ⟨x, hx, wx⟩ := leaf_int (n := 3) hf (o := 0) (t' := 3) (by kernel_rfl) Try.underlying3
  obtain ⟨y, hy, wy⟩ := leaf_int (n := 3) hf (o := 1) (t' := 3) (by kernel_rfl) Try.underlying3
  simp [Value.cells] at hx hy
  subst hx hy
  exact ⟨x, y, rfl, i64_of_wf wx, i64_of_wf wy⟩
theorem open_rect (hv : Value.okWide Try.prog W r b0 24 v) (h : DataW.Trod enc Try.prog W base sp hd 24 v d p) :
    ∃ x y z u : Int, v = .agg #[.int .i64 x, .int .i64 y, .int .i64 z, .int .i64 u] ∧ (-9223372036854775808 ≤ x ∧ x ≤ 9223372036854775807) := by
  obtain ⟨cs, rfl, hsz⟩ := okWide_struct Try.underlying24 hv
  obtain ⟨u0, u1, u2, u3, rfl⟩ := array4 (hsz.trans (by kernel_rfl))
  obtain ⟨fuel, hf⟩ := h
  obtain ⟨x, hx, wx⟩ := leaf_int (n := 3) hf (o := 0) (t' := 3) (by kernel_rfl) Try.underlying3
  obtain ⟨y, hy, wy⟩ := leaf_int (n := 3) hf (o := 1) (t' := 3) (by kernel_rfl) Try.underlying3
  obtain ⟨z, hz, wz⟩ := leaf_int (n := 3) hf (o := 2) (t' := 3) (by kernel_rfl) Try.underlying3
  obtain ⟨u, hu, wu⟩ := leaf_int (n := 3) hf (o := 3) (t' := 3) (by kernel_rfl) Try.underlying3
  simp [Value.cells] at hx hy hz hu
  subst hx hy hz hu
  exact ⟨x, y, z, u, rfl, i64_of_wf wx⟩
theorem open_cells (hv : Value.okWide Try.prog W r b0 22 v) (h : DataW.Trod enc Try.prog W base sp hd 22 v d p) :
    ∃ A len cap cr cc, v = .slice A len cap ∧ len ≤ 9223372036854775807 ∧ CellsAt W A len cr cc := by
  obtain ⟨A, len, cap, rfl⟩ := okWide_slice Try.underlying22 hv
  obtain ⟨fuel, hf⟩ := h
  obtain ⟨h1, h2, f, hi⟩ := open_flat (N := 2) (by omega) Try.underlying22 (by kernel_rfl) (by kernel_rfl) hf
  refine ⟨A, len, cap, fun i => f i 0, fun i => f i 1, rfl, by unfold maxLen at h2; omega, fun k hk => ?_⟩
  obtain ⟨b, off, hA, hb, hc⟩ := hi k hk
  exact ⟨b, off, hA, hb, (hc 0 (by omega)).1, (hc 1 (by omega)).1⟩
end
end Go.Proofs.Ytiiiiplfcaeegaa

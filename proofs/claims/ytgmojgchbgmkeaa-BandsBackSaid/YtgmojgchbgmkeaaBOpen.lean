/-
  Bands: how a script opens. Conditions: those of each theorem.
-/
import Derived.Test.YtgmojgchbgmkeaaBScr
import Derived.Test.YtgmojgchbgmkeaaSized
import Derived.Lib.SmallJoins
namespace Go.Proofs.Ytgmojgchbgmkeaa
open Go.ChangeShapes Go.WideShapes Go.ChangeAt Go.RowKit Go.Deep Go.Joins

set_option maxRecDepth 100000 in
theorem open_scr {H : Type} {enc : TypeId × Value → H} {W : World} {r : Reach} {b0 base : Nat} {sp : Nat → Bool} {hd : Bool} {v : Value} {d : DataW H} {p : List MemPlace}
    (hv : Value.okWide Try.prog W r b0 22 v) (h : DataW.Trod enc Try.prog W base sp hd 22 v d p) :
    ∃ A len cap ops, v = .slice A len cap ∧ ScrB W A len ops := by
  obtain ⟨A, len, cap, rfl⟩ := okWide_slice Try.underlying22 hv
  obtain ⟨fuel, hf⟩ := h
  obtain ⟨h1, h2, f, hi⟩ := open_flat (N := 7) (by omega) Try.underlying22 (by kernel_rfl) (by kernel_rfl) hf
  refine ⟨A, len, cap, fun i => ⟨f i 0, f i 1, f i 2, f i 3, f i 4, f i 5, f i 6⟩, rfl, fun k hk => ?_⟩
  obtain ⟨b, off, hA, hb, hc⟩ := hi k hk
  exact ⟨b, off, hA, hb, ⟨(hc 0 (by omega)).1, (hc 1 (by omega)).1, (hc 2 (by omega)).1, (hc 3 (by omega)).1, (hc 4 (by omega)).1, (hc 5 (by omega)).1, (hc 6 (by omega)).1⟩,
    ⟨i64_of_wf (hc 1 (by omega)).2, i64_of_wf (hc 2 (by omega)).2, i64_of_wf (hc 3 (by omega)).2⟩, i64_of_wf (hc 4 (by omega)).2, i64_of_wf (hc 5 (by omega)).2, i64_of_wf (hc 6 (by omega)).2⟩
set_option maxRecDepth 100000 in
theorem open_cell2 {H : Type} {enc : TypeId × Value → H} {W : World} {r : Reach} {b0 base : Nat} {sp : Nat → Bool} {hd : Bool} {v : Value} {d : DataW H} {p : List MemPlace}
    (hv : Value.okWide Try.prog W r b0 33 v) (h : DataW.Trod enc Try.prog W base sp hd 33 v d p) :
    ∃ row col, v = .agg #[.int .i64 row, .int .i64 col] ∧ i64P row ∧ i64P col := by
  obtain ⟨cs, rfl, hsz⟩ := okWide_struct Try.underlying33 hv
  obtain ⟨u0, u1, rfl⟩ := array2 (hsz.trans (by kernel_rfl))
  obtain ⟨fuel, hf⟩ := h
  obtain ⟨x, hx, wx⟩ := leaf_int (n := 3) hf (o := 0) (t' := 3) (by kernel_rfl) Try.underlying3
  obtain ⟨y, hy, wy⟩ := leaf_int (n := 3) hf (o := 1) (t' := 3) (by kernel_rfl) Try.underlying3
  simp [Value.cells] at hx hy
  subst hx hy
  exact ⟨x, y, rfl, i64_of_wf wx, i64_of_wf wy⟩
end Go.Proofs.Ytgmojgchbgmkeaa

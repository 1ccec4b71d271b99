/-
  How a list of deeds opens. Conditions: those of the theorem.
-/
import Derived.Test.YtiiiiplfcaeegaaSOpen
import Derived.Test.YtiiiiplfcaeegaaSPlays
namespace Go.Proofs.Ytiiiiplfcaeegaa
open Go.ChangeShapes Go.WideShapes Go.ChangeAt Go.RowKit Go.Joins

section
variable {H : Type} {enc : TypeId × Value → H} {W : World} {r : Reach} {b0 base : Nat} {sp : Nat → Bool} {hd : Bool} {v : Value} {d : DataW H} {p : List MemPlace}
theorem open_deeds (hv : Value.okWide Try.prog W r b0 51 v) (h : DataW.Trod enc Try.prog W base sp hd 51 v d p) :
    ∃ A len cap, v = .slice A len cap ∧ len ≤ 9223372036854775807 ∧ DeedsAt W A len := by
  obtain ⟨A, len, cap, rfl⟩ := okWide_slice Try.underlying51 hv
  obtain ⟨fuel, hf⟩ := h
  obtain ⟨h1, h2, f, hi⟩ := open_flat (N := 8) (by omega) Try.underlying51 (by kernel_rfl) (by kernel_rfl) hf
  refine ⟨A, len, cap, rfl, by unfold maxLen at h2; omega, fun k hk => ?_⟩
  obtain ⟨b, off, hA, hb, hc⟩ := hi k hk
  have q := fun j (hj : j < 8) => i64_of_wf (hc j hj).2
  exact ⟨b, off, _, _, _, _, _, _, _, _, hA, hb, ⟨(hc 0 (by omega)).1, (hc 1 (by omega)).1, (hc 2 (by omega)).1, (hc 3 (by omega)).1, (hc 4 (by omega)).1, (hc 5 (by omega)).1, (hc 6 (by omega)).1, (hc 7 (by omega)).1⟩, q 0 (by omega), q 1 (by omega), q 2 (by omega), q 3 (by omega), q 7 (by omega)⟩
end
end Go.Proofs.Ytiiiiplfcaeegaa

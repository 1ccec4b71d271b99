/-
  A slice among the arguments takes no more than the reach. Over any program. Conditions: those of the theorem.
-/
import Derived.Test.YtgmojgchbgmkeaaBase
import Derived.SizedLaws
namespace Go.Proofs.Ytgmojgchbgmkeaa
open Go.ChangeShapes Go.WideShapes Go.ChangeAt Go.RowKit Go.Deep

theorem slice_bytes {H : Type} {enc : TypeId × Value → H} {P : Program} {w : World} {base : Nat} {sp : Nat → Bool} {hd : Bool} {t e : TypeId} {A : Option Addr} {len cap : Nat} {d : DataW H} {p : List MemPlace}
    (h : DataW.Trod enc P w base sp hd t (.slice A len cap) d p) (ht : P.underlying t = some (.slice e)) {ts : List TypeId} {ds : List (DataW H)} {j : Nat} (hz : (DataW.weightsEach P ts ds).all (· ≤ reachBytes) = true)
    (hj : ts[j]? = some t) (hdj : ds[j]? = some d) : len * P.bytesOf e ≤ reachBytes := by
  obtain ⟨fuel, hf⟩ := h
  rcases open_slice ht hf with ⟨h0, _⟩ | ⟨a, len', cap', m, n, D, Pl, hcs, _, hl, hc, hm, hx, hi⟩
  · simp only [Value.cells, List.cons.injEq, Value.slice.injEq, and_true] at h0
    obtain ⟨rfl, rfl, rfl⟩ := h0
    simp
  · simp only [Value.cells, List.cons.injEq, Value.slice.injEq, and_true] at hcs
    obtain ⟨rfl, rfl, rfl⟩ := hcs
    obtain ⟨rfl, _⟩ := Prod.mk.inj hx
    have := sized_slice hz hj hdj ht
    rw [Nat.add_mul] at this
    simp at this
    omega
end Go.Proofs.Ytgmojgchbgmkeaa

/-
  Deps: sums of deeds; where references lie. Conditions: those of each theorem.
-/
import Derived.Test.YtpgnebhlnkoajaaDOpen
import Derived.Test.YtpgnebhlnkoajaaDLives
namespace Go.Proofs.Ytpgnebhlnkoajaa
open Go.ChangeShapes Go.WideShapes Go.ChangeAt Go.RowKit Go.Deep

theorem tot_take {D : List DdV} {k : Nat} {d : DdV} (h : D[k]? = some d) : tot (D.take (k + 1)) = tot (D.take k) + (d.L.length + 1) := by
  unfold tot
  rw [List.take_add_one, h]
  simp
theorem tot_le : ∀ (D : List DdV) (k : Nat), tot (D.take k) ≤ tot D
  | [], k => by simp
  | d :: D, 0 => by simp [tot]
  | d :: D, k + 1 => by
    have := tot_le D k
    unfold tot at *
    simp only [List.take_succ_cons, List.map_cons, List.sum_cons]
    omega
theorem tot_len : ∀ (D : List DdV), D.length ≤ tot D
  | [] => by simp
  | d :: D => by
    have := tot_len D
    unfold tot at *
    simp only [List.length_cons, List.map_cons, List.sum_cons]
    omega
theorem lies_lt {α : Type} {K : Knd α} {w : World} {A : Option Addr} {L : List α} (h : Lies K w A L) {x : α} (hx : x ∈ L) {b off : Nat} (hA : A = some ⟨b, off, none⟩) : b < w.heap.size := by
  obtain ⟨i, hi⟩ := List.getElem?_of_mem hx
  obtain ⟨b', off', h1, h2, _⟩ := h i x hi
  rw [h1] at hA
  injection hA with hA
  injection hA with hA _ _
  omega
end Go.Proofs.Ytpgnebhlnkoajaa

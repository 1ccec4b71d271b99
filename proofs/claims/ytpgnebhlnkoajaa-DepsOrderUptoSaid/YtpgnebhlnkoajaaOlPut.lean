/-
  Lists that a walk builds by appends: an element turned in place. Over any program. Conditions: those of each theorem.
-/
import Derived.Test.YtpgnebhlnkoajaaOl
namespace Go.Proofs.Ytpgnebhlnkoajaa
open Go.ChangeShapes Go.WideShapes Go.ChangeAt Go.RowKit Go.Deep

section
variable {α : Type} {K : Knd α}
theorem cellsK_put : ∀ (L : List α) (i : Nat) (x x' : α) (j : Nat) (u : Value), L[i]? = some x → j < K.size → K.enc x' = (K.enc x).set j u → cellsK K (L.set i x') = (cellsK K L).set (i * K.size + j) u
  | [], i, x, x', j, u, h, _, _ => by simp at h
  | y :: L, 0, x, x', j, u, h, hj, he => by
    simp at h
    subst h
    show K.enc x' ++ cellsK K L = (K.enc y ++ cellsK K L).set _ u
    rw [he, Nat.zero_mul, Nat.zero_add, List.set_append_left _ _ (by rw [K.len]; exact hj)]
  | y :: L, i + 1, x, x', j, u, h, hj, he => by
    have ih := cellsK_put L i x x' j u (by simpa using h) hj he
    show K.enc y ++ cellsK K (L.set i x') = (K.enc y ++ cellsK K L).set _ u
    rw [ih, List.set_append_right _ _ (by rw [K.len, Nat.add_mul]; omega), K.len, show (i + 1) * K.size + j - K.size = i * K.size + j by rw [Nat.add_mul]; omega]

variable {w : World} {B g c : Nat} {L : List α}
theorem OL.fz (h : OL K w B (.slice (some ⟨g, 0, none⟩) L.length c) L) : ∀ i, w.frozen? ⟨g, i, none⟩ = false := fun i => by
  obtain ⟨cur, e⟩ := h.type g rfl
  exact Blk.fz (t := K.t) (cs := cur) e i
theorem OL.put (h : OL K w B (.slice (some ⟨g, 0, none⟩) L.length c) L) {i j : Nat} {x x' : α} {u : Value} (hx : L[i]? = some x) (hj : j < K.size) (he : K.enc x' = (K.enc x).set j u) :
    OL K (w.setCell ⟨g, i * K.size + j, none⟩ u) B (.slice (some ⟨g, 0, none⟩) L.length c) (L.set i x') := by
  obtain ⟨h1, h2⟩ := h
  have hil : i < L.length := (List.getElem?_eq_some_iff.1 hx).1
  have hk : i * K.size + j < L.length * K.size := by
    have := Nat.mul_le_mul_right K.size (show i + 1 ≤ L.length from hil)
    rw [Nat.add_mul] at this
    omega
  rcases h2 with ⟨h2, _⟩ | ⟨g', cap, cur, hv, hB, hg, hn, hm, hs, ht⟩
  · cases h2
  · injection hv with e1 e2 e3
    injection e1 with e1
    injection e1 with e1
    subst e1 e3
    refine ⟨by rw [cellsK_len], .inr ⟨g, c, cur.setIfInBounds (i * K.size + j) u, by rw [List.length_set], hB, ?_, by rw [List.length_set]; exact hn, hm, by simpa using hs, ?_⟩⟩
    · exact Blk.put (t := K.t) (cs := cur) hg _ u
    · rw [cellsK_put L i x x' j u hx hj he, ← ht, List.length_set, Array.toList_setIfInBounds, List.take_set]
theorem OL.at_ (h : OL K w B (.slice (some ⟨g, 0, none⟩) L.length c) L) {i : Nat} {x : α} (hx : L[i]? = some x) {j : Nat} {u : Value} (hu : (K.enc x)[j]? = some u) : w.cell? ⟨g, i * K.size + j, none⟩ = some u := by
  have := World.ownsRow.cells (g := g) h rfl _ _ (cellsK_at K L i x j u hx hu)
  rw [addr_add, Nat.zero_add] at this
  exact this
end
end Go.Proofs.Ytpgnebhlnkoajaa

/-
  Lists that a walk builds by appends: what a cut at the end leaves. Over any program. Conditions: those of each theorem.
-/
import Derived.Test.YtpgnebhlnkoajaaOl
namespace Go.Proofs.Ytpgnebhlnkoajaa
open Go.ChangeShapes Go.WideShapes Go.ChangeAt Go.RowKit Go.Deep

section
variable {α : Type} {K : Knd α}
theorem cellsK_take (L : List α) (n : Nat) : cellsK K (L.take n) = (cellsK K L).take (n * K.size) := by
  induction L generalizing n with
  | nil => simp [cellsK]
  | cons x L ih =>
    cases n with
    | zero => simp [cellsK]
    | succ n =>
      show K.enc x ++ cellsK K (L.take n) = (K.enc x ++ cellsK K L).take _
      rw [ih, List.take_append, K.len, show (n + 1) * K.size - K.size = n * K.size by rw [Nat.add_mul]; omega, List.take_of_length_le (l := K.enc x) (by rw [K.len, Nat.add_mul]; omega)]
variable {w : World} {B c : Nat} {A : Option Addr} {L : List α}
theorem OL.take (h : OL K w B (.slice A L.length c) L) (n : Nat) (hn : n ≤ L.length) : OL K w B (.slice A n c) (L.take n) := by
  have hl : (L.take n).length = n := by simp; omega
  obtain ⟨h1, h2⟩ := h
  refine ⟨by rw [cellsK_len], ?_⟩
  rw [hl]
  rcases h2 with ⟨h2, h3⟩ | ⟨g', cap, cur, hv, hB, hg, hle, hm, hs, ht⟩
  · injection h2 with e1 e2 e3
    have : n = 0 := by omega
    exact .inl ⟨by rw [e1, e3, this], this⟩
  · injection hv with e1 e2 e3
    subst e1 e3
    refine .inr ⟨g', c, cur, rfl, hB, hg, by omega, hm, hs, ?_⟩
    rw [cellsK_take, ← ht, List.take_take]
    congr 1
    exact (Nat.min_eq_left (Nat.mul_le_mul_right _ hn)).symm
theorem ol_none (h : OL K w B (.slice none L.length c) L) : L.length = 0 ∧ c = 0 := by
  rcases h.2 with ⟨h2, h3⟩ | ⟨g', cap, cur, hv, _⟩
  · injection h2 with e1 e2 e3
    exact ⟨h3, e3⟩
  · injection hv with e1 _ _
    cases e1
end
end Go.Proofs.Ytpgnebhlnkoajaa

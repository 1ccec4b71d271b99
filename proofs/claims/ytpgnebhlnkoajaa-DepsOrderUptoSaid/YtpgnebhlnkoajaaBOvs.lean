/-
  Bands: what Over answers, plain: the cells of the sorted list, each once. Conditions: none.
-/
import Derived.Test.YtpgnebhlnkoajaaBSortC
namespace Go.Proofs.Ytpgnebhlnkoajaa

/-- One step of the document's Over. -/
def ovS (row col : Int) (out : List Cl) (p : Pr) : List Cl := if inB p.t p.l p.b p.r row col = true ∧ out.getLast? ≠ some ⟨p.row, p.col⟩ then out ++ [⟨p.row, p.col⟩] else out
def ovs (row col : Int) (L : List Pr) : List Cl := L.foldl (ovS row col) []
theorem ovS_spec (row col : Int) (out : List Cl) (p : Pr) (h1 : SrtC out) (h2 : ∀ x, x ∈ out → x = (⟨p.row, p.col⟩ : Cl) ∨ ltC x ⟨p.row, p.col⟩) :
    SrtC (ovS row col out p) ∧ ∀ x, x ∈ ovS row col out p ↔ x ∈ out ∨ inB p.t p.l p.b p.r row col = true ∧ x = (⟨p.row, p.col⟩ : Cl) := by
  unfold ovS
  by_cases hi : inB p.t p.l p.b p.r row col = true
  case neg => rw [if_neg (fun h => hi h.1)]; exact ⟨h1, fun x => ⟨.inl, fun h => h.elim id (fun h => absurd h.1 hi)⟩⟩
  by_cases hl : out.getLast? = some ⟨p.row, p.col⟩
  · rw [if_neg (fun h => h.2 hl)]
    exact ⟨h1, fun x => ⟨.inl, fun h => h.elim id (fun h => by rw [h.2]; exact List.mem_of_getLast? hl)⟩⟩
  · rw [if_pos ⟨hi, hl⟩]
    refine ⟨?_, fun x => ?_⟩
    · rw [SrtC, List.pairwise_append]
      refine ⟨h1, by simp, fun x hx y hy => ?_⟩
      rw [List.mem_singleton.1 hy]
      rcases h2 x hx with e | e
      · exfalso
        subst e
        cases hz : out.getLast? with
        | none => rw [List.getLast?_eq_none_iff.1 hz] at hx; cases hx
        | some z =>
          obtain ⟨ys, hys⟩ := List.getLast?_eq_some_iff.1 hz
          have hzm : z ∈ out := List.mem_of_getLast? hz
          have hne : z ≠ (⟨p.row, p.col⟩ : Cl) := fun e => hl (by rw [hz, e])
          rcases h2 z hzm with e | e
          · exact hne e
          · rw [hys, List.mem_append] at hx
            rcases hx with hx | hx
            · rw [hys, SrtC, List.pairwise_append] at h1
              exact ltC_irrefl _ (ltC_trans e (h1.2.2 _ hx z (by simp)))
            · exact hne (List.mem_singleton.1 hx).symm
      · exact e
    · rw [List.mem_append, List.mem_singleton]
      exact ⟨fun h => h.elim .inl (fun h => .inr ⟨hi, h⟩), fun h => h.elim .inl (fun h => .inr h.2)⟩
theorem cell_le {p q : Pr} (h : ltP p q) : (⟨p.row, p.col⟩ : Cl) = ⟨q.row, q.col⟩ ∨ ltC ⟨p.row, p.col⟩ ⟨q.row, q.col⟩ := by
  unfold ltP at h
  simp only [ltC, Cl.mk.injEq]
  omega
theorem ovs_from (row col : Int) : ∀ (L : List Pr) (out : List Cl), SrtP L → SrtC out → (∀ x, x ∈ out → ∀ p, p ∈ L → x = (⟨p.row, p.col⟩ : Cl) ∨ ltC x ⟨p.row, p.col⟩) →
    SrtC (L.foldl (ovS row col) out) ∧ ∀ x, x ∈ L.foldl (ovS row col) out ↔ x ∈ out ∨ ∃ p, p ∈ L ∧ inB p.t p.l p.b p.r row col = true ∧ x = (⟨p.row, p.col⟩ : Cl)
  | [], out, _, h2, _ => ⟨h2, fun x => ⟨.inl, fun h => h.elim id (fun ⟨p, hp, _⟩ => by cases hp)⟩⟩
  | p :: L, out, h1, h2, h3 => by
    rw [SrtP, List.pairwise_cons] at h1
    obtain ⟨s1, s2⟩ := ovS_spec row col out p h2 (fun x hx => h3 x hx p (by simp))
    obtain ⟨r1, r2⟩ := ovs_from row col L (ovS row col out p) h1.2 s1 (fun x hx q hq => by
      rcases (s2 x).1 hx with h | ⟨_, rfl⟩
      · exact h3 x h q (by simp [hq])
      · exact cell_le (h1.1 q hq))
    refine ⟨r1, fun x => ?_⟩
    rw [List.foldl_cons, r2 x, s2 x]
    constructor
    · rintro ((h | h) | ⟨q, hq, h⟩)
      · exact .inl h
      · exact .inr ⟨p, by simp, h⟩
      · exact .inr ⟨q, by simp [hq], h⟩
    · rintro (h | ⟨q, hq, h⟩)
      · exact .inl (.inl h)
      · rcases List.mem_cons.1 hq with rfl | hq
        · exact .inl (.inr h)
        · exact .inr ⟨q, hq, h⟩
/-- The document's answer holds the cells of those that cover the cell, sorted, each once. -/
theorem ovs_spec (row col : Int) {L : List Pr} (h : SrtP L) : SrtC (ovs row col L) ∧ ∀ x, x ∈ ovs row col L ↔ ∃ p, p ∈ L ∧ inB p.t p.l p.b p.r row col = true ∧ x = (⟨p.row, p.col⟩ : Cl) := by
  obtain ⟨h1, h2⟩ := ovs_from row col L [] h List.Pairwise.nil (fun x hx => by cases hx)
  exact ⟨h1, fun x => (h2 x).trans (by simp)⟩
end Go.Proofs.Ytpgnebhlnkoajaa

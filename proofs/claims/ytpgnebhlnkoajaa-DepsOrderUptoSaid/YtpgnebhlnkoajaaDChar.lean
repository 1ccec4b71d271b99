/-
  Deps, plain: which edges a row of deeds leaves. Conditions: those of each theorem.
-/
import Derived.Test.YtpgnebhlnkoajaaDTot
namespace Go.Proofs.Ytpgnebhlnkoajaa

def cD (d : DdV) : Cl := ⟨d.row, d.col⟩
/-- An edge is there behind the first m deeds, of which those of P were done. -/
def chS (D : List DdV) (P : Nat → Prop) (m : Nat) (e : Ed) : Prop := ∃ i d, i < m ∧ D[i]? = some d ∧ P i ∧ setE (cD d) d.L = 0 ∧ eCl e = cD d ∧ eRf e ∈ d.L ∧ ∀ k d', i < k → k < m → D[k]? = some d' → P k → cD d' = cD d → setE (cD d') d'.L ≠ 0
theorem chS_zero (D : List DdV) (P : Nat → Prop) (e : Ed) : ¬ chS D P 0 e := fun ⟨_, _, h, _⟩ => absurd h (Nat.not_lt_zero _)
theorem chS_skip {D : List DdV} {P : Nat → Prop} {m : Nat} (h : ¬ P m) (e : Ed) : chS D P (m + 1) e ↔ chS D P m e := by
  constructor
  · rintro ⟨i, d, h1, h2, h3, h4, h5, h6, h7⟩
    refine ⟨i, d, ?_, h2, h3, h4, h5, h6, fun k d' k1 k2 => h7 k d' k1 (by omega)⟩
    rcases Nat.lt_succ_iff_lt_or_eq.1 h1 with h8 | rfl
    · exact h8
    · exact absurd h3 h
  · rintro ⟨i, d, h1, h2, h3, h4, h5, h6, h7⟩
    refine ⟨i, d, by omega, h2, h3, h4, h5, h6, fun k d' k1 k2 k3 k4 k5 => ?_⟩
    rcases Nat.lt_succ_iff_lt_or_eq.1 k2 with h8 | rfl
    · exact h7 k d' k1 h8 k3 k4 k5
    · exact absurd k4 h
theorem chS_step {D : List DdV} {P : Nat → Prop} {m : Nat} {d : DdV} {Es : List Ed} (hs : SrtE Es) (hd : D[m]? = some d) (hP : P m) (h : ∀ e, e ∈ Es ↔ chS D P m e) (e : Ed) : e ∈ setD (cD d) d.L Es ↔ chS D P (m + 1) e := by
  by_cases h0 : setE (cD d) d.L = 0
  · rw [mem_setD hs h0, h e]
    constructor
    · rintro (⟨h1, i, d1, k1, k2, k3, k4, k5, k6, k7⟩ | ⟨h1, h2⟩)
      · refine ⟨i, d1, by omega, k2, k3, k4, k5, k6, fun k d' j1 j2 j3 j4 j5 => ?_⟩
        rcases Nat.lt_succ_iff_lt_or_eq.1 j2 with h8 | rfl
        · exact k7 k d' j1 h8 j3 j4 j5
        · rw [hd] at j3
          injection j3 with j3
          subst j3
          exact absurd (k5.trans j5.symm) h1
      · exact ⟨m, d, Nat.lt_succ_self _, hd, hP, h0, h1, h2, fun k d' j1 j2 => by omega⟩
    · rintro ⟨i, d1, k1, k2, k3, k4, k5, k6, k7⟩
      rcases Nat.lt_succ_iff_lt_or_eq.1 k1 with h8 | rfl
      · by_cases hc : eCl e = cD d
        · exact absurd h0 (k7 m d h8 (Nat.lt_succ_self _) hd hP (hc.symm.trans k5))
        · exact .inl ⟨hc, i, d1, h8, k2, k3, k4, k5, k6, fun k d' j1 j2 => k7 k d' j1 (by omega)⟩
      · rw [hd] at k2
        injection k2 with k2
        subst k2
        exact .inr ⟨k5, k6⟩
  · rw [setD_no h0, h e]
    constructor
    · rintro ⟨i, d1, k1, k2, k3, k4, k5, k6, k7⟩
      refine ⟨i, d1, by omega, k2, k3, k4, k5, k6, fun k d' j1 j2 j3 j4 j5 => ?_⟩
      rcases Nat.lt_succ_iff_lt_or_eq.1 j2 with h8 | rfl
      · exact k7 k d' j1 h8 j3 j4 j5
      · rw [hd] at j3
        injection j3 with j3
        subst j3
        exact h0
    · rintro ⟨i, d1, k1, k2, k3, k4, k5, k6, k7⟩
      rcases Nat.lt_succ_iff_lt_or_eq.1 k1 with h8 | rfl
      · exact ⟨i, d1, h8, k2, k3, k4, k5, k6, fun k d' j1 j2 => k7 k d' j1 (by omega)⟩
      · rw [hd] at k2
        injection k2 with k2
        subst k2
        exact absurd k4 h0
/-- A later one that was taken takes it back. -/
def lateD (D : List DdV) (i : Nat) : Prop := ∃ j d d', i < j ∧ D[i]? = some d ∧ D[j]? = some d' ∧ cD d' = cD d ∧ setE (cD d') d'.L = 0
theorem chS_last (D : List DdV) (e : Ed) : chS D (fun _ => True) D.length e ↔ chS D (fun i => ¬ lateD D i) D.length e := by
  constructor
  · rintro ⟨i, d, h1, h2, _, h4, h5, h6, h7⟩
    refine ⟨i, d, h1, h2, ?_, h4, h5, h6, fun k d' j1 j2 j3 _ j5 => h7 k d' j1 j2 j3 trivial j5⟩
    rintro ⟨j, d1, d', k1, k2, k3, k4, k5⟩
    rw [h2] at k2
    injection k2 with k2
    subst k2
    exact h7 j d' k1 (List.getElem?_eq_some_iff.1 k3).1 k3 trivial k4 k5
  · rintro ⟨i, d, h1, h2, h3, h4, h5, h6, _⟩
    exact ⟨i, d, h1, h2, trivial, h4, h5, h6, fun k d' j1 j2 j3 _ j5 j6 => h3 ⟨k, d, d', j1, h2, j3, j5, j6⟩⟩
end Go.Proofs.Ytpgnebhlnkoajaa

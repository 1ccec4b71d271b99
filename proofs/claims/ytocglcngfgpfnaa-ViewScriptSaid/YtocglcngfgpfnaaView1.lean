/-
  Contracts of addr.May, orielref03.May, addr.In, addr.Span, addr.Cut and of view's methods, over what the block of a Views holds. Conditions: those of each theorem.
-/
import Derived.Test.YtocglcngfgpfnaaRows
import Derived.Test.YtocglcngfgpfnaaBase
import Derived.WalkSpells
import Derived.WalkLawsBesides
import Derived.Outline
import Derived.Deep.OwnRows
namespace Go.Proofs.Ytocglcngfgpfnaa
open Go.ChangeShapes Go.WideShapes Go.ChangeAt Go.RowKit Go.Deep

def mayB (r c : Int) : Bool := decide (1 ≤ r ∧ r ≤ 4096 ∧ 1 ≤ c ∧ c ≤ 256)
theorem mayB_true {r c : Int} (h : mayB r c = true) : 1 ≤ r ∧ r ≤ 4096 ∧ 1 ≤ c ∧ c ≤ 256 := by simpa [mayB] using h
theorem mayB_false {r c : Int} (h : mayB r c = false) : ¬ (1 ≤ r ∧ r ≤ 4096 ∧ 1 ≤ c ∧ c ≤ 256) := by simpa [mayB] using h

theorem may_any (r c : Int) (w : World) :
    Calls Try.prog 21 #[.agg #[.int .i64 r, .int .i64 c]] w fun e w' => e = .returned (.bool (mayB r c)) ∧ Below w.heap.size w w' := by
  by_cases h1 : 1 ≤ r
  · by_cases h2 : r ≤ 4096
    · by_cases h3 : 1 ≤ c
      · by_cases h4 : c ≤ 256
        · have h : mayB r c = true := by simp [mayB]; omega
          go_enter Try.func21, Try.ntmps21
          go_wp2
          go_ret
          exact ⟨by first | rfl | (rw [h]; rfl), (Below.refl _ _).alloc (Nat.le_refl _) _⟩
        · have h : mayB r c = false := by simp [mayB]; omega
          go_enter Try.func21, Try.ntmps21
          go_wp2
          go_ret
          exact ⟨by first | rfl | (rw [h]; rfl), (Below.refl _ _).alloc (Nat.le_refl _) _⟩
      · have h : mayB r c = false := by simp [mayB]; omega
        go_enter Try.func21, Try.ntmps21
        go_wp2
        go_ret
        exact ⟨by first | rfl | (rw [h]; rfl), (Below.refl _ _).alloc (Nat.le_refl _) _⟩
    · have h : mayB r c = false := by simp [mayB]; omega
      go_enter Try.func21, Try.ntmps21
      go_wp2
      go_ret
      exact ⟨by first | rfl | (rw [h]; rfl), (Below.refl _ _).alloc (Nat.le_refl _) _⟩
  · have h : mayB r c = false := by simp [mayB]; omega
    go_enter Try.func21, Try.ntmps21
    go_wp2
    go_ret
    exact ⟨by first | rfl | (rw [h]; rfl), (Below.refl _ _).alloc (Nat.le_refl _) _⟩

theorem in_any (t l b r x y : Int) (w : World) :
    Calls Try.prog 12 #[.agg #[.int .i64 t, .int .i64 l, .int .i64 b, .int .i64 r], .agg #[.int .i64 x, .int .i64 y]] w fun e w' => e = .returned (.bool (decide (t ≤ x ∧ x ≤ b ∧ l ≤ y ∧ y ≤ r))) ∧ Below w.heap.size w w' := by
  obtain ⟨B, hB⟩ : ∃ B, B = decide (t ≤ x ∧ x ≤ b ∧ l ≤ y ∧ y ≤ r) := ⟨_, rfl⟩
  rw [← hB]
  by_cases h1 : t ≤ x
  · by_cases h2 : x ≤ b
    · by_cases h3 : l ≤ y
      · by_cases h4 : y ≤ r
        · have h : B = true := by rw [hB]; simp; omega
          clear hB
          subst h
          go_enter Try.func12, Try.ntmps12
          go_wp2
          go_ret
          exact ⟨rfl, ((Below.refl _ _).alloc (Nat.le_refl _) _).alloc (by simp) _⟩
        · have h : B = false := by rw [hB]; simp; omega
          clear hB
          subst h
          go_enter Try.func12, Try.ntmps12
          go_wp2
          go_ret
          exact ⟨rfl, ((Below.refl _ _).alloc (Nat.le_refl _) _).alloc (by simp) _⟩
      · have h : B = false := by rw [hB]; simp; omega
        clear hB
        subst h
        go_enter Try.func12, Try.ntmps12
        go_wp2
        go_ret
        exact ⟨rfl, ((Below.refl _ _).alloc (Nat.le_refl _) _).alloc (by simp) _⟩
    · have h : B = false := by rw [hB]; simp; omega
      clear hB
      subst h
      go_enter Try.func12, Try.ntmps12
      go_wp2
      go_ret
      exact ⟨rfl, ((Below.refl _ _).alloc (Nat.le_refl _) _).alloc (by simp) _⟩
  · have h : B = false := by rw [hB]; simp; omega
    clear hB
    subst h
    go_enter Try.func12, Try.ntmps12
    go_wp2
    go_ret
    exact ⟨rfl, ((Below.refl _ _).alloc (Nat.le_refl _) _).alloc (by simp) _⟩

theorem within_any (n lo hi : Int) (w : World) :
    Calls Try.prog 24 #[.int .i64 n, .int .i64 lo, .int .i64 hi] w fun e w' => e = .returned (.bool (decide (lo ≤ n ∧ n ≤ hi))) ∧ w = w' := by
  obtain ⟨B, hB⟩ : ∃ B, B = decide (lo ≤ n ∧ n ≤ hi) := ⟨_, rfl⟩
  rw [← hB]
  by_cases h1 : lo ≤ n
  · by_cases h2 : n ≤ hi
    · have h : B = true := by rw [hB]; simp; omega
      clear hB
      subst h
      go_enter Try.func24, Try.ntmps24
      go_wp2
      go_ret
      exact ⟨rfl, rfl⟩
    · have h : B = false := by rw [hB]; simp; omega
      clear hB
      subst h
      go_enter Try.func24, Try.ntmps24
      go_wp2
      go_ret
      exact ⟨rfl, rfl⟩
  · have h : B = false := by rw [hB]; simp; omega
    clear hB
    subst h
    go_enter Try.func24, Try.ntmps24
    go_wp2
    go_ret
    exact ⟨rfl, rfl⟩

theorem rmay_any (r c : Int) (w : World) :
    Calls Try.prog 9 #[.agg #[.int .i64 r, .int .i64 c]] w fun e w' => e = .returned (.bool (mayB r c)) ∧ Below w.heap.size w w' := by
  by_cases h1 : 1 ≤ r ∧ r ≤ 4096
  · by_cases h2 : 1 ≤ c ∧ c ≤ 256
    · have h : mayB r c = true := by simp [mayB]; omega
      have e1 : decide (1 ≤ r ∧ r ≤ 4096) = true := by simpa using h1
      have e2 : decide (1 ≤ c ∧ c ≤ 256) = true := by simpa using h2
      rw [h]
      go_enter Try.func9, Try.ntmps9
      go_wp2_with fail
      refine (within_any _ _ _ _).mono ?_
      rintro e w' ⟨rfl, rfl⟩
      go_wp2_with fail
      refine (within_any _ _ _ _).mono ?_
      rintro e w' ⟨rfl, rfl⟩
      go_wp2_with fail
      go_ret
      exact ⟨rfl, (Below.refl _ _).alloc (Nat.le_refl _) _⟩
    · have h : mayB r c = false := by simp [mayB]; omega
      have e1 : decide (1 ≤ r ∧ r ≤ 4096) = true := by simpa using h1
      have e2 : decide (1 ≤ c ∧ c ≤ 256) = false := by simpa using h2
      rw [h]
      go_enter Try.func9, Try.ntmps9
      go_wp2_with fail
      refine (within_any _ _ _ _).mono ?_
      rintro e w' ⟨rfl, rfl⟩
      go_wp2_with fail
      refine (within_any _ _ _ _).mono ?_
      rintro e w' ⟨rfl, rfl⟩
      go_wp2_with fail
      go_ret
      exact ⟨rfl, (Below.refl _ _).alloc (Nat.le_refl _) _⟩
  · have h : mayB r c = false := by simp [mayB]; omega
    have e1 : decide (1 ≤ r ∧ r ≤ 4096) = false := by simpa using h1
    rw [h]
    go_enter Try.func9, Try.ntmps9
    go_wp2_with fail
    refine (within_any _ _ _ _).mono ?_
    rintro e w' ⟨rfl, rfl⟩
    go_wp2_with fail
    go_ret
    exact ⟨rfl, (Below.refl _ _).alloc (Nat.le_refl _) _⟩
end Go.Proofs.Ytocglcngfgpfnaa

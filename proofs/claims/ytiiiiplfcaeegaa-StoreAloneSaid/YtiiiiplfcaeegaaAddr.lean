/-
  Contracts of addr.May and of orielref03's within, May, In, Before. Conditions: none.
-/
import Derived.Test.YtiiiiplfcaeegaaRows
import Derived.Test.YtiiiiplfcaeegaaBase
import Derived.WalkSpells
import Derived.WalkLawsBesides
import Derived.Outline
namespace Go.Proofs.Ytiiiiplfcaeegaa
open Go.ChangeShapes Go.WideShapes Go.ChangeAt Go.RowKit Go.Deep

def mayB (r c : Int) : Bool := decide (1 ≤ r ∧ r ≤ 4096 ∧ 1 ≤ c ∧ c ≤ 256)
theorem mayB_true {r c : Int} (h : mayB r c = true) : 1 ≤ r ∧ r ≤ 4096 ∧ 1 ≤ c ∧ c ≤ 256 := by simpa [mayB] using h
theorem mayB_false {r c : Int} (h : mayB r c = false) : ¬ (1 ≤ r ∧ r ≤ 4096 ∧ 1 ≤ c ∧ c ≤ 256) := by simpa [mayB] using h

theorem may_any (r c : Int) (w : World) :
    Calls Try.prog 21 #[.agg #[.int .i64 r, .int .i64 c]] w fun e w' => e = .returned (.bool (mayB r c)) ∧ Below w.heap.size w w' := by
  by_cases h1 : 1 ≤ r
  · by_cases h2 : r ≤ 4096
    · by_cases h3 : 1 ≤ c
      · by_cases h4 : c ≤ 256
        · have h : mayB r c = true := by simp [mayB]; omega
          go_enter Try.func21, Try.ntmps21
          go_wp2
          go_ret
          exact ⟨by first | rfl | (rw [h]; rfl), (Below.refl _ _).alloc (Nat.le_refl _) _⟩
        · have h : mayB r c = false := by simp [mayB]; omega
          go_enter Try.func21, Try.ntmps21
          go_wp2
          go_ret
          exact ⟨by first | rfl | (rw [h]; rfl), (Below.refl _ _).alloc (Nat.le_refl _) _⟩
      · have h : mayB r c = false := by simp [mayB]; omega
        go_enter Try.func21, Try.ntmps21
        go_wp2
        go_ret
        exact ⟨by first | rfl | (rw [h]; rfl), (Below.refl _ _).alloc (Nat.le_refl _) _⟩
    · have h : mayB r c = false := by simp [mayB]; omega
      go_enter Try.func21, Try.ntmps21
      go_wp2
      go_ret
      exact ⟨by first | rfl | (rw [h]; rfl), (Below.refl _ _).alloc (Nat.le_refl _) _⟩
  · have h : mayB r c = false := by simp [mayB]; omega
    go_enter Try.func21, Try.ntmps21
    go_wp2
    go_ret
    exact ⟨by first | rfl | (rw [h]; rfl), (Below.refl _ _).alloc (Nat.le_refl _) _⟩

theorem within_any (n lo hi : Int) (w : World) :
    Calls Try.prog 23 #[.int .i64 n, .int .i64 lo, .int .i64 hi] w fun e w' => e = .returned (.bool (decide (lo ≤ n ∧ n ≤ hi))) ∧ w = w' := by
  obtain ⟨B, hB⟩ : ∃ B, B = decide (lo ≤ n ∧ n ≤ hi) := ⟨_, rfl⟩
  rw [← hB]
  by_cases h1 : lo ≤ n
  · by_cases h2 : n ≤ hi
    · have h : B = true := by rw [hB]; simp; omega
      clear hB
      subst h
      go_enter Try.func23, Try.ntmps23
      go_wp2
      go_ret
      exact ⟨rfl, rfl⟩
    · have h : B = false := by rw [hB]; simp; omega
      clear hB
      subst h
      go_enter Try.func23, Try.ntmps23
      go_wp2
      go_ret
      exact ⟨rfl, rfl⟩
  · have h : B = false := by rw [hB]; simp; omega
    clear hB
    subst h
    go_enter Try.func23, Try.ntmps23
    go_wp2
    go_ret
    exact ⟨rfl, rfl⟩

theorem rmay_any (r c : Int) (w : World) :
    Calls Try.prog 10 #[.agg #[.int .i64 r, .int .i64 c]] w fun e w' => e = .returned (.bool (mayB r c)) ∧ Below w.heap.size w w' := by
  by_cases h1 : 1 ≤ r ∧ r ≤ 4096
  · by_cases h2 : 1 ≤ c ∧ c ≤ 256
    · have h : mayB r c = true := by simp [mayB]; omega
      have e1 : decide (1 ≤ r ∧ r ≤ 4096) = true := by simpa using h1
      have e2 : decide (1 ≤ c ∧ c ≤ 256) = true := by simpa using h2
      rw [h]
      go_enter Try.func10, Try.ntmps10
      go_wp2_with fail
      refine (within_any _ _ _ _).mono ?_
      rintro e w' ⟨rfl, rfl⟩
      go_wp2_with fail
      refine (within_any _ _ _ _).mono ?_
      rintro e w' ⟨rfl, rfl⟩
      go_wp2_with fail
      go_ret
      exact ⟨rfl, (Below.refl _ _).alloc (Nat.le_refl _) _⟩
    · have h : mayB r c = false := by simp [mayB]; omega
      have e1 : decide (1 ≤ r ∧ r ≤ 4096) = true := by simpa using h1
      have e2 : decide (1 ≤ c ∧ c ≤ 256) = false := by simpa using h2
      rw [h]
      go_enter Try.func10, Try.ntmps10
      go_wp2_with fail
      refine (within_any _ _ _ _).mono ?_
      rintro e w' ⟨rfl, rfl⟩
      go_wp2_with fail
      refine (within_any _ _ _ _).mono ?_
      rintro e w' ⟨rfl, rfl⟩
      go_wp2_with fail
      go_ret
      exact ⟨rfl, (Below.refl _ _).alloc (Nat.le_refl _) _⟩
  · have h : mayB r c = false := by simp [mayB]; omega
    have e1 : decide (1 ≤ r ∧ r ≤ 4096) = false := by simpa using h1
    rw [h]
    go_enter Try.func10, Try.ntmps10
    go_wp2_with fail
    refine (within_any _ _ _ _).mono ?_
    rintro e w' ⟨rfl, rfl⟩
    go_wp2_with fail
    go_ret
    exact ⟨rfl, (Below.refl _ _).alloc (Nat.le_refl _) _⟩

def inB (t l b r x y : Int) : Bool := decide (t ≤ x ∧ x ≤ b) && decide (l ≤ y ∧ y ≤ r)
theorem inB_true {t l b r x y : Int} (h : inB t l b r x y = true) : t ≤ x ∧ x ≤ b ∧ l ≤ y ∧ y ≤ r := by
  simp [inB] at h
  omega
theorem inB_mk {t l b r x y : Int} (h : t ≤ x ∧ x ≤ b ∧ l ≤ y ∧ y ≤ r) : inB t l b r x y = true := by
  simp [inB]
  omega
theorem rin_any (t l b r x y : Int) (w : World) :
    Calls Try.prog 11 #[.agg #[.int .i64 t, .int .i64 l, .int .i64 b, .int .i64 r], .agg #[.int .i64 x, .int .i64 y]] w fun e w' => e = .returned (.bool (inB t l b r x y)) ∧ Below w.heap.size w w' := by
  cases e1 : decide (t ≤ x ∧ x ≤ b) with
  | true =>
    unfold inB
    rw [e1]
    go_enter Try.func11, Try.ntmps11
    go_wp2_with fail
    refine (within_any _ _ _ _).mono ?_
    rintro e w' ⟨rfl, rfl⟩
    go_wp2_with fail
    refine (within_any _ _ _ _).mono ?_
    rintro e w' ⟨rfl, rfl⟩
    go_wp2_with fail
    go_ret
    exact ⟨by simp, bel_alloc (bel_alloc (bel_refl w) _) _⟩
  | false =>
    unfold inB
    rw [e1]
    go_enter Try.func11, Try.ntmps11
    go_wp2_with fail
    refine (within_any _ _ _ _).mono ?_
    rintro e w' ⟨rfl, rfl⟩
    go_wp2_with fail
    go_ret
    exact ⟨rfl, bel_alloc (bel_alloc (bel_refl w) _) _⟩

def befB (ax ay x y : Int) : Bool := decide (ax < x ∨ (ax = x ∧ ay < y))
theorem rbefore_any (ax ay x y : Int) (w : World) :
    Calls Try.prog 13 #[.agg #[.int .i64 ax, .int .i64 ay], .agg #[.int .i64 x, .int .i64 y]] w fun e w' => e = .returned (.bool (befB ax ay x y)) ∧ Below w.heap.size w w' := by
  obtain ⟨B, hB⟩ : ∃ B, B = befB ax ay x y := ⟨_, rfl⟩
  rw [← hB]
  unfold befB at hB
  by_cases h1 : ax < x
  · have h : B = true := by rw [hB]; simp; omega
    clear hB
    subst h
    go_enter Try.func13, Try.ntmps13
    go_wp2
    go_ret
    exact ⟨rfl, bel_alloc (bel_alloc (bel_refl w) _) _⟩
  · by_cases h2 : ax = x
    · by_cases h3 : ay < y
      · have h : B = true := by rw [hB]; simp; omega
        clear hB
        subst h h2
        go_enter Try.func13, Try.ntmps13
        go_wp2
        go_ret
        exact ⟨rfl, bel_alloc (bel_alloc (bel_refl w) _) _⟩
      · have h : B = false := by rw [hB]; simp; omega
        clear hB
        subst h h2
        go_enter Try.func13, Try.ntmps13
        go_wp2
        go_ret
        exact ⟨rfl, bel_alloc (bel_alloc (bel_refl w) _) _⟩
    · have h : B = false := by rw [hB]; simp; omega
      have h2' : (ax == x) = false := by simpa using h2
      clear hB
      subst h
      go_enter Try.func13, Try.ntmps13
      go_wp2
      go_ret
      exact ⟨rfl, bel_alloc (bel_alloc (bel_refl w) _) _⟩
end Go.Proofs.Ytiiiiplfcaeegaa

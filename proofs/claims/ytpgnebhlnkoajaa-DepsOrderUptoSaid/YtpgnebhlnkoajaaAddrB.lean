/-
  Contracts of In and Before, the program's and the document's. Conditions: none.
-/
import Derived.Test.YtpgnebhlnkoajaaAddrR
namespace Go.Proofs.Ytpgnebhlnkoajaa
open Go.ChangeShapes Go.WideShapes Go.ChangeAt Go.RowKit Go.Deep

def inB (t l b r x y : Int) : Bool := decide (t ≤ x ∧ x ≤ b) && decide (l ≤ y ∧ y ≤ r)
theorem inB_true {t l b r x y : Int} (h : inB t l b r x y = true) : t ≤ x ∧ x ≤ b ∧ l ≤ y ∧ y ≤ r := by
  simp [inB] at h
  omega
theorem inB_mk {t l b r x y : Int} (h : t ≤ x ∧ x ≤ b ∧ l ≤ y ∧ y ≤ r) : inB t l b r x y = true := by
  simp [inB]
  omega
theorem rin_any (t l b r x y : Int) (w : World) :
    Calls Try.prog 20 #[.agg #[.int .i64 t, .int .i64 l, .int .i64 b, .int .i64 r], .agg #[.int .i64 x, .int .i64 y]] w fun e w' => e = .returned (.bool (inB t l b r x y)) ∧ Below w.heap.size w w' := by
  cases e1 : decide (t ≤ x ∧ x ≤ b) with
  | true =>
    unfold inB
    rw [e1]
    go_enter Try.func20, Try.ntmps20
    go_wp2_with fail
    refine (within_any _ _ _ _).mono ?_
    rintro e w' ⟨rfl, rfl⟩
    go_wp2_with fail
    refine (within_any _ _ _ _).mono ?_
    rintro e w' ⟨rfl, rfl⟩
    go_wp2_with fail
    go_ret
    exact ⟨by simp, bel_alloc (bel_alloc (bel_refl w) _) _⟩
  | false =>
    unfold inB
    rw [e1]
    go_enter Try.func20, Try.ntmps20
    go_wp2_with fail
    refine (within_any _ _ _ _).mono ?_
    rintro e w' ⟨rfl, rfl⟩
    go_wp2_with fail
    go_ret
    exact ⟨rfl, bel_alloc (bel_alloc (bel_refl w) _) _⟩

def befB (ax ay x y : Int) : Bool := decide (ax < x ∨ (ax = x ∧ ay < y))
theorem rbefore_any (ax ay x y : Int) (w : World) :
    Calls Try.prog 21 #[.agg #[.int .i64 ax, .int .i64 ay], .agg #[.int .i64 x, .int .i64 y]] w fun e w' => e = .returned (.bool (befB ax ay x y)) ∧ Below w.heap.size w w' := by
  obtain ⟨B, hB⟩ : ∃ B, B = befB ax ay x y := ⟨_, rfl⟩
  rw [← hB]
  unfold befB at hB
  by_cases h1 : ax < x
  · have h : B = true := by rw [hB]; simp; omega
    clear hB
    subst h
    go_enter Try.func21, Try.ntmps21
    go_wp2
    go_ret
    exact ⟨rfl, bel_alloc (bel_alloc (bel_refl w) _) _⟩
  · by_cases h2 : ax = x
    · by_cases h3 : ay < y
      · have h : B = true := by rw [hB]; simp; omega
        clear hB
        subst h h2
        go_enter Try.func21, Try.ntmps21
        go_wp2
        go_ret
        exact ⟨rfl, bel_alloc (bel_alloc (bel_refl w) _) _⟩
      · have h : B = false := by rw [hB]; simp; omega
        clear hB
        subst h h2
        go_enter Try.func21, Try.ntmps21
        go_wp2
        go_ret
        exact ⟨rfl, bel_alloc (bel_alloc (bel_refl w) _) _⟩
    · have h : B = false := by rw [hB]; simp; omega
      have h2' : (ax == x) = false := by simpa using h2
      clear hB
      subst h
      go_enter Try.func21, Try.ntmps21
      go_wp2
      go_ret
      exact ⟨rfl, bel_alloc (bel_alloc (bel_refl w) _) _⟩


theorem pin_any (t l b r x y : Int) (w : World) :
    Calls Try.prog 44 #[.agg #[.int .i64 t, .int .i64 l, .int .i64 b, .int .i64 r], .agg #[.int .i64 x, .int .i64 y]] w fun e w' => e = .returned (.bool (inB t l b r x y)) ∧ Below w.heap.size w w' := by
  obtain ⟨B, hB⟩ : ∃ B, B = inB t l b r x y := ⟨_, rfl⟩
  rw [← hB]
  unfold inB at hB
  by_cases h1 : t ≤ x
  case neg =>
    have h : B = false := by rw [hB]; simp; omega
    clear hB
    subst h
    have d1 : decide (t ≤ x) = false := by simp; omega
    go_enter Try.func44, Try.ntmps44
    go_wp2_with fail
    go_ret
    exact ⟨by simp, bel_alloc (bel_alloc (bel_refl w) _) _⟩
  have d1 : decide (t ≤ x) = true := by simp; omega
  by_cases h2 : x ≤ b
  case neg =>
    have h : B = false := by rw [hB]; simp; omega
    clear hB
    subst h
    have d2 : decide (x ≤ b) = false := by simp; omega
    go_enter Try.func44, Try.ntmps44
    go_wp2_with fail
    go_ret
    exact ⟨by simp, bel_alloc (bel_alloc (bel_refl w) _) _⟩
  have d2 : decide (x ≤ b) = true := by simp; omega
  by_cases h3 : l ≤ y
  case neg =>
    have h : B = false := by rw [hB]; simp; omega
    clear hB
    subst h
    have d3 : decide (l ≤ y) = false := by simp; omega
    go_enter Try.func44, Try.ntmps44
    go_wp2_with fail
    go_ret
    exact ⟨by simp, bel_alloc (bel_alloc (bel_refl w) _) _⟩
  have d3 : decide (l ≤ y) = true := by simp; omega
  by_cases h4 : y ≤ r
  · have h : B = true := by rw [hB]; simp; omega
    clear hB
    subst h
    have d4 : decide (y ≤ r) = true := by simp; omega
    go_enter Try.func44, Try.ntmps44
    go_wp2_with fail
    go_ret
    exact ⟨by simp, bel_alloc (bel_alloc (bel_refl w) _) _⟩
  · have h : B = false := by rw [hB]; simp; omega
    clear hB
    subst h
    have d4 : decide (y ≤ r) = false := by simp; omega
    go_enter Try.func44, Try.ntmps44
    go_wp2_with fail
    go_ret
    exact ⟨by simp, bel_alloc (bel_alloc (bel_refl w) _) _⟩
end Go.Proofs.Ytpgnebhlnkoajaa

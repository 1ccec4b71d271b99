/-
  Contracts of addr.May, MayRect and of orielref03's within, May, MayRect. Conditions: none.
-/
import Derived.Test.YtpgnebhlnkoajaaRows
import Derived.Test.YtpgnebhlnkoajaaBase
import Derived.WalkSpells
import Derived.WalkLawsBesides
import Derived.Outline
import Derived.Lib.Hide
namespace Go.Proofs.Ytpgnebhlnkoajaa
open Go.ChangeShapes Go.WideShapes Go.ChangeAt Go.RowKit Go.Deep

def mayB (r c : Int) : Bool := decide (1 ≤ r ∧ r ≤ 4096 ∧ 1 ≤ c ∧ c ≤ 256)
theorem mayB_true {r c : Int} (h : mayB r c = true) : 1 ≤ r ∧ r ≤ 4096 ∧ 1 ≤ c ∧ c ≤ 256 := by simpa [mayB] using h
theorem mayB_false {r c : Int} (h : mayB r c = false) : ¬ (1 ≤ r ∧ r ≤ 4096 ∧ 1 ≤ c ∧ c ≤ 256) := by simpa [mayB] using h

theorem may_any (r c : Int) (w : World) :
    Calls Try.prog 24 #[.agg #[.int .i64 r, .int .i64 c]] w fun e w' => e = .returned (.bool (mayB r c)) ∧ Below w.heap.size w w' := by
  by_cases h1 : 1 ≤ r
  · by_cases h2 : r ≤ 4096
    · by_cases h3 : 1 ≤ c
      · by_cases h4 : c ≤ 256
        · have h : mayB r c = true := by simp [mayB]; omega
          go_enter Try.func24, Try.ntmps24
          go_wp2
          go_ret
          exact ⟨by first | rfl | (rw [h]; rfl), (Below.refl _ _).alloc (Nat.le_refl _) _⟩
        · have h : mayB r c = false := by simp [mayB]; omega
          go_enter Try.func24, Try.ntmps24
          go_wp2
          go_ret
          exact ⟨by first | rfl | (rw [h]; rfl), (Below.refl _ _).alloc (Nat.le_refl _) _⟩
      · have h : mayB r c = false := by simp [mayB]; omega
        go_enter Try.func24, Try.ntmps24
        go_wp2
        go_ret
        exact ⟨by first | rfl | (rw [h]; rfl), (Below.refl _ _).alloc (Nat.le_refl _) _⟩
    · have h : mayB r c = false := by simp [mayB]; omega
      go_enter Try.func24, Try.ntmps24
      go_wp2
      go_ret
      exact ⟨by first | rfl | (rw [h]; rfl), (Below.refl _ _).alloc (Nat.le_refl _) _⟩
  · have h : mayB r c = false := by simp [mayB]; omega
    go_enter Try.func24, Try.ntmps24
    go_wp2
    go_ret
    exact ⟨by first | rfl | (rw [h]; rfl), (Below.refl _ _).alloc (Nat.le_refl _) _⟩

theorem within_any (n lo hi : Int) (w : World) :
    Calls Try.prog 38 #[.int .i64 n, .int .i64 lo, .int .i64 hi] w fun e w' => e = .returned (.bool (decide (lo ≤ n ∧ n ≤ hi))) ∧ w = w' := by
  obtain ⟨B, hB⟩ : ∃ B, B = decide (lo ≤ n ∧ n ≤ hi) := ⟨_, rfl⟩
  rw [← hB]
  by_cases h1 : lo ≤ n
  · by_cases h2 : n ≤ hi
    · have h : B = true := by rw [hB]; simp; omega
      clear hB
      subst h
      go_enter Try.func38, Try.ntmps38
      go_wp2
      go_ret
      exact ⟨rfl, rfl⟩
    · have h : B = false := by rw [hB]; simp; omega
      clear hB
      subst h
      go_enter Try.func38, Try.ntmps38
      go_wp2
      go_ret
      exact ⟨rfl, rfl⟩
  · have h : B = false := by rw [hB]; simp; omega
    clear hB
    subst h
    go_enter Try.func38, Try.ntmps38
    go_wp2
    go_ret
    exact ⟨rfl, rfl⟩

theorem rmay_any (r c : Int) (w : World) :
    Calls Try.prog 30 #[.agg #[.int .i64 r, .int .i64 c]] w fun e w' => e = .returned (.bool (mayB r c)) ∧ Below w.heap.size w w' := by
  by_cases h1 : 1 ≤ r ∧ r ≤ 4096
  · by_cases h2 : 1 ≤ c ∧ c ≤ 256
    · have h : mayB r c = true := by simp [mayB]; omega
      have e1 : decide (1 ≤ r ∧ r ≤ 4096) = true := by simpa using h1
      have e2 : decide (1 ≤ c ∧ c ≤ 256) = true := by simpa using h2
      rw [h]
      go_enter Try.func30, Try.ntmps30
      go_wp2_with fail
      refine (within_any _ _ _ _).mono ?_
      rintro e w' ⟨rfl, rfl⟩
      go_wp2_with fail
      refine (within_any _ _ _ _).mono ?_
      rintro e w' ⟨rfl, rfl⟩
      go_wp2_with fail
      go_ret
      exact ⟨rfl, (Below.refl _ _).alloc (Nat.le_refl _) _⟩
    · have h : mayB r c = false := by simp [mayB]; omega
      have e1 : decide (1 ≤ r ∧ r ≤ 4096) = true := by simpa using h1
      have e2 : decide (1 ≤ c ∧ c ≤ 256) = false := by simpa using h2
      rw [h]
      go_enter Try.func30, Try.ntmps30
      go_wp2_with fail
      refine (within_any _ _ _ _).mono ?_
      rintro e w' ⟨rfl, rfl⟩
      go_wp2_with fail
      refine (within_any _ _ _ _).mono ?_
      rintro e w' ⟨rfl, rfl⟩
      go_wp2_with fail
      go_ret
      exact ⟨rfl, (Below.refl _ _).alloc (Nat.le_refl _) _⟩
  · have h : mayB r c = false := by simp [mayB]; omega
    have e1 : decide (1 ≤ r ∧ r ≤ 4096) = false := by simpa using h1
    rw [h]
    go_enter Try.func30, Try.ntmps30
    go_wp2_with fail
    refine (within_any _ _ _ _).mono ?_
    rintro e w' ⟨rfl, rfl⟩
    go_wp2_with fail
    go_ret
    exact ⟨rfl, (Below.refl _ _).alloc (Nat.le_refl _) _⟩

/-- May a rectangle be? -/
def mayR (t l b r : Int) : Bool := mayB t l && mayB b r && decide (t ≤ b) && decide (l ≤ r)
theorem ret_bool {a b : Bool} (h : a = b) : Ending.returned (.bool a) = Ending.returned (.bool b) := by rw [h]

theorem first_any (t l b r : Int) (w : World) :
    Calls Try.prog 56 #[.agg #[.int .i64 t, .int .i64 l, .int .i64 b, .int .i64 r]] w fun e w' => e = .returned (.agg #[.int .i64 t, .int .i64 l]) ∧ Below w.heap.size w w' := by
  go_enter Try.func56, Try.ntmps56
  go_wp2_with fail
  exact bodyPost_ret (v := .agg #[.int .i64 t, .int .i64 l]) (by simp [results, Try.results56, go_sem]) rfl ⟨rfl, bel_alloc (bel_alloc (bel_refl w) _) _⟩

theorem last_any (t l b r : Int) (w : World) :
    Calls Try.prog 57 #[.agg #[.int .i64 t, .int .i64 l, .int .i64 b, .int .i64 r]] w fun e w' => e = .returned (.agg #[.int .i64 b, .int .i64 r]) ∧ Below w.heap.size w w' := by
  go_enter Try.func57, Try.ntmps57
  go_wp2_with fail
  exact bodyPost_ret (v := .agg #[.int .i64 b, .int .i64 r]) (by simp [results, Try.results57, go_sem]) rfl ⟨rfl, bel_alloc (bel_alloc (bel_refl w) _) _⟩

theorem mayrect_any (t l b r : Int) (w : World) :
    Calls Try.prog 40 #[.agg #[.int .i64 t, .int .i64 l, .int .i64 b, .int .i64 r]] w fun e w' => e = .returned (.bool (mayR t l b r)) ∧ Below w.heap.size w w' := by
  have hw := bel_alloc (bel_refl w) (.cells #[.int .i64 t, .int .i64 l, .int .i64 b, .int .i64 r] 47)
  have k1 := Blk.new w rfl 47 #[.int .i64 t, .int .i64 l, .int .i64 b, .int .i64 r]
  obtain ⟨m1, hm1⟩ : ∃ m, mayB t l = m := ⟨_, rfl⟩
  obtain ⟨m2, hm2⟩ : ∃ m, mayB b r = m := ⟨_, rfl⟩
  obtain ⟨R, hR⟩ : ∃ R, R = (m1 && m2 && decide (t ≤ b) && decide (l ≤ r)) := ⟨_, rfl⟩
  have e : mayR t l b r = R := by rw [hR, ← hm1, ← hm2]; rfl
  rw [e]
  have HR := Lib.hid hR
  have H1 := Lib.hid hm1
  have H2 := Lib.hid hm2
  clear e hR hm1 hm2
  go_enter Try.func40, Try.ntmps40
  go_wp2_with fail
  refine (first_any t l b r _).mono ?_
  rintro e w1 ⟨rfl, hb1⟩
  replace k1 := k1.below hb1
  replace hw := bel_call hw hb1
  go_wp2_with fail
  refine (may_any t l _).mono ?_
  rintro e w2 ⟨rfl, hb2⟩
  rw [H1.out]
  replace k1 := k1.below hb2
  replace hw := bel_call hw hb2
  clear hb1 hb2
  have rd1 := k1.rd
  cases m1 with
  | false =>
    go_wp2_with fail
    go_ret
    exact ⟨ret_bool (by rw [HR.out]; simp), hw⟩
  | true =>
    go_wp2_with fail
    refine (last_any t l b r _).mono ?_
    rintro e w3 ⟨rfl, hb3⟩
    replace k1 := k1.below hb3
    replace hw := bel_call hw hb3
    clear rd1
    go_wp2_with fail
    refine (may_any b r _).mono ?_
    rintro e w4 ⟨rfl, hb4⟩
    rw [H2.out]
    replace k1 := k1.below hb4
    replace hw := bel_call hw hb4
    have rd1 := k1.rd
    clear hb3 hb4
    cases m2 with
    | false =>
      go_wp2_with fail
      go_ret
      exact ⟨ret_bool (by rw [HR.out]; simp), hw⟩
    | true =>
      go_wp2_with fail
      all_goals
        go_ret
        exact ⟨ret_bool (by rw [HR.out]; first | (simp_all; done) | (simp_all; omega)), hw⟩

theorem rmayrect_any (t l b r : Int) (w : World) :
    Calls Try.prog 42 #[.agg #[.int .i64 t, .int .i64 l, .int .i64 b, .int .i64 r]] w fun e w' => e = .returned (.bool (mayR t l b r)) ∧ Below w.heap.size w w' := by
  have hw := bel_alloc (bel_refl w) (.cells #[.int .i64 t, .int .i64 l, .int .i64 b, .int .i64 r] 47)
  have k1 := Blk.new w rfl 47 #[.int .i64 t, .int .i64 l, .int .i64 b, .int .i64 r]
  obtain ⟨m1, hm1⟩ : ∃ m, mayB t l = m := ⟨_, rfl⟩
  obtain ⟨m2, hm2⟩ : ∃ m, mayB b r = m := ⟨_, rfl⟩
  obtain ⟨R, hR⟩ : ∃ R, R = (m1 && m2 && decide (t ≤ b) && decide (l ≤ r)) := ⟨_, rfl⟩
  have e : mayR t l b r = R := by rw [hR, ← hm1, ← hm2]; rfl
  rw [e]
  have HR := Lib.hid hR
  have H1 := Lib.hid hm1
  have H2 := Lib.hid hm2
  clear e hR hm1 hm2
  go_enter Try.func42, Try.ntmps42
  go_wp2_with fail
  refine (rmay_any t l _).mono ?_
  rintro e w2 ⟨rfl, hb2⟩
  rw [H1.out]
  replace k1 := k1.below hb2
  replace hw := bel_call hw hb2
  clear hb2
  have rd1 := k1.rd
  go_wp2_with fail
  refine (rmay_any b r _).mono ?_
  rintro e w4 ⟨rfl, hb4⟩
  rw [H2.out]
  replace k1 := k1.below hb4
  replace hw := bel_call hw hb4
  replace rd1 := k1.rd
  clear hb4
  cases m1 with
  | false =>
    go_wp2_with fail
    go_ret
    exact ⟨ret_bool (by rw [HR.out]; simp), hw⟩
  | true =>
    cases m2 with
    | false =>
      go_wp2_with fail
      go_ret
      exact ⟨ret_bool (by rw [HR.out]; simp), hw⟩
    | true =>
      go_wp2_with fail
      all_goals
        go_ret
        exact ⟨ret_bool (by rw [HR.out]; first | (simp_all; done) | (simp_all; omega)), hw⟩
end Go.Proofs.Ytpgnebhlnkoajaa

/-
  Values: contracts of the two tests of a value. Conditions: none.
-/
import Derived.Test.YtifmfkofadhieaaAddrR
import Derived.Test.YtifmfkofadhieaaPlan
import Derived.WalkSpells
import Derived.WalkLawsBesides
import Derived.Outline
namespace Go.Proofs.Ytifmfkofadhieaa
open Go.ChangeShapes Go.WideShapes Go.ChangeAt Go.RowKit Go.Deep

/-- A string is empty. -/
def mt (s : ByteArray) : Bool := s.toList.isEmpty
/-- May a value be? -/
def mayV (tag num : Int) (str : ByteArray) (is : Bool) (code : Int) : Bool :=
  (decide (tag = 0) && decide (num = 0) && mt str && !is && decide (code = 0)) ||
  (decide (tag = 1) && decide (-9223372036854775807 ≤ num) && mt str && !is && decide (code = 0)) ||
  (decide (tag = 2) && decide (num = 0) && !is && decide (code = 0)) ||
  (decide (tag = 3) && decide (num = 0) && mt str && decide (code = 0)) ||
  (decide (tag = 4) && decide (num = 0) && mt str && !is && decide (1 ≤ code) && decide (code ≤ 8))

theorem rdec_any (x : Int) (w : World) :
    Calls Try.prog 46 #[.int .i64 x] w fun e w' => e = .returned (.bool (decide (-9223372036854775807 ≤ x))) ∧ w = w' := by
  go_enter Try.func46, Try.ntmps46
  go_wp2_with fail
  go_ret
  exact ⟨by simp, rfl⟩

set_option maxHeartbeats 1600000 in
set_option maxRecDepth 100000 in
theorem rval_any (tag num : Int) (str : ByteArray) (is : Bool) (code : Int) (w : World) :
    Calls Try.prog 35 #[.agg #[.int .i64 tag, .int .i64 num, .string str, .bool is, .int .i64 code]] w fun e w' => e = .returned (.bool (mayV tag num str is code)) ∧ Below w.heap.size w w' := by
  obtain ⟨R, hR⟩ : ∃ R, R = mayV tag num str is code := ⟨_, rfl⟩
  have HR : Hid (R = mayV tag num str is code) := hR
  rw [← hR]
  clear hR
  by_cases t1 : tag = 1
  · subst t1
    go_enter Try.func35, Try.ntmps35
    go_wp2_with (go_at_call 46; refine (rdec_any _ _).mono ?_; rintro e w' ⟨rfl, rfl⟩)
    all_goals
      go_ret
      exact ⟨ret_bool (by rw [HR.out]; first | (simp_all [mayV, mt]; done) | (simp_all [mayV, mt]; omega)), bel_alloc (bel_refl w) _⟩
  · by_cases t2 : tag = 2
    · subst t2
      go_enter Try.func35, Try.ntmps35
      go_wp2_with fail
      all_goals
        go_ret
        exact ⟨ret_bool (by rw [HR.out]; first | (simp_all [mayV, mt]; done) | (simp_all [mayV, mt]; omega)), bel_alloc (bel_refl w) _⟩
    · by_cases t3 : tag = 3
      · subst t3
        go_enter Try.func35, Try.ntmps35
        go_wp2_with fail
        all_goals
          go_ret
          exact ⟨ret_bool (by rw [HR.out]; first | (simp_all [mayV, mt]; done) | (simp_all [mayV, mt]; omega)), bel_alloc (bel_refl w) _⟩
      · by_cases t4 : tag = 4
        · subst t4
          go_enter Try.func35, Try.ntmps35
          go_wp2_with fail
          all_goals
            go_ret
            exact ⟨ret_bool (by rw [HR.out]; first | (simp_all [mayV, mt]; done) | (simp_all [mayV, mt]; omega)), bel_alloc (bel_refl w) _⟩
        · by_cases t0 : tag = 0
          · subst t0
            clear t1 t2 t3 t4
            go_enter Try.func35, Try.ntmps35
            go_wp2_with fail
            all_goals
              go_ret
              exact ⟨ret_bool (by rw [HR.out]; first | (simp_all [mayV, mt]; done) | (simp_all [mayV, mt]; omega)), bel_alloc (bel_refl w) _⟩
          · have q0 : (tag == 0) = false := by simpa using t0
            have q1 : (tag == 1) = false := by simpa using t1
            have q2 : (tag == 2) = false := by simpa using t2
            have q3 : (tag == 3) = false := by simpa using t3
            have q4 : (tag == 4) = false := by simpa using t4
            have n1 : (tag != 1) = true := by simpa using t1
            have n2 : (tag != 2) = true := by simpa using t2
            have n3 : (tag != 3) = true := by simpa using t3
            have n4 : (tag != 4) = true := by simpa using t4
            have HRF : Hid (R = false) := by
              rw [HR.out]
              show (_ = _)
              simp [mayV, t0, t1, t2, t3, t4]
            clear t0 t1 t2 t3 t4
            go_enter Try.func35, Try.ntmps35
            go_wp2_with fail
            all_goals
              go_ret
              exact ⟨ret_bool HRF.out.symm, bel_alloc (bel_refl w) _⟩
end Go.Proofs.Ytifmfkofadhieaa

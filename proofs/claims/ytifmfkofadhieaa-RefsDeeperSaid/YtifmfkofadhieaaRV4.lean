/-
  Values: contract of value.May. Conditions: the number is a 64-bit integer.
-/
import Derived.Test.YtifmfkofadhieaaRV3
namespace Go.Proofs.Ytifmfkofadhieaa
open Go.ChangeShapes Go.WideShapes Go.ChangeAt Go.RowKit Go.Deep Go.Sort

theorem mt_iff {s : ByteArray} : mt s = true ↔ s.toList = [] := by simp [mt]
theorem eqV_nil (s : ByteArray) : (s.toList == (⟨#[]⟩ : ByteArray).toList) = mt s := by
  have : (⟨#[]⟩ : ByteArray).toList = [] := mt_iff.1 mt_nil
  rw [this]
  unfold mt
  cases s.toList <;> rfl
theorem mt_nil' : mt ⟨#[]⟩ = true := mt_nil
theorem pure_0 (num : Int) (str : ByteArray) (is : Bool) (code : Int) : mayV 0 num str is code = eqV 0 num str is code 0 0 ⟨#[]⟩ false 0 := by
  unfold mayV eqV
  rw [eqV_nil]
  cases is <;> cases mt str <;> simp
theorem pure_1 (num : Int) (str : ByteArray) (is : Bool) (code : Int) : mayV 1 num str is code = (eqV 1 0 str is code 1 0 ⟨#[]⟩ false 0 && decide (-9223372036854775807 ≤ num)) := by
  unfold mayV eqV
  rw [eqV_nil]
  generalize decide (-9223372036854775807 ≤ num) = d
  cases is <;> cases mt str <;> cases d <;> simp
theorem pure_2 (num : Int) (str : ByteArray) (is : Bool) (code : Int) : mayV 2 num str is code = eqV 2 num ⟨#[]⟩ is code 2 0 ⟨#[]⟩ false 0 := by
  unfold mayV eqV
  rw [eqV_nil, mt_nil]
  cases is <;> cases mt str <;> simp
theorem pure_3 (num : Int) (str : ByteArray) (is : Bool) (code : Int) : mayV 3 num str is code = eqV 3 num str false code 3 0 ⟨#[]⟩ false 0 := by
  unfold mayV eqV
  rw [eqV_nil]
  cases is <;> cases mt str <;> simp
theorem pure_4 (num : Int) (str : ByteArray) (is : Bool) (code : Int) : mayV 4 num str is code = (eqV 4 num str is 0 4 0 ⟨#[]⟩ false 0 && (decide (1 ≤ code) && decide (code ≤ 8))) := by
  unfold mayV eqV
  rw [eqV_nil]
  generalize decide (1 ≤ code) = d
  generalize decide (code ≤ 8) = d'
  cases is <;> cases mt str <;> cases d <;> cases d' <;> simp

set_option maxHeartbeats 6400000 in
set_option maxRecDepth 100000 in
theorem val_any (tag num : Int) (str : ByteArray) (is : Bool) (code : Int) (w : World) (hnum : -9223372036854775808 ≤ num) :
    Calls Try.prog 31 #[.agg #[.int .i64 tag, .int .i64 num, .string str, .bool is, .int .i64 code]] w fun e w' => e = .returned (.bool (mayV tag num str is code)) ∧ Below w.heap.size w w' := by
  obtain ⟨R, hR⟩ : ∃ R, R = mayV tag num str is code := ⟨_, rfl⟩
  have HR : Hid (R = mayV tag num str is code) := hR
  rw [← hR]
  clear hR
  by_cases hlo : tag < 0
  · have HRF : Hid (R = false) := by
      rw [HR.out]
      show (_ = _)
      simp [mayV]
      omega
    have h1 : decide (tag < 0) = true := by simpa using hlo
    have g1 := (Blk.new w rfl 44 #[.int .i64 tag, .int .i64 num, .string str, .bool is, .int .i64 code]).gr
    clear hlo HR hnum
    go_enter Try.func31, Try.ntmps31
    go_wp2_with fail
    refine wp_region_quiet_below (by kernel_rfl) (by kernel_rfl) ?_
    repeat (any_goals (first | go_big_quiet_step ((fail)) | fail))
    refine wpQuiet_nil ?_
    intro w3 hw'
    have hb3 := class_below hw'
    clear hw'
    go_wp2_with fail
    go_ret
    exact ⟨ret_bool HRF.out.symm, bel_call (bel_alloc (bel_refl w) _) hb3⟩
  by_cases hhi : 4 < tag
  · have HRF : Hid (R = false) := by
      rw [HR.out]
      show (_ = _)
      simp [mayV]
      omega
    have h1 : decide (tag < 0) = false := by simpa using hlo
    have h2 : decide (4 < tag) = true := by simpa using hhi
    have g1 := (Blk.new w rfl 44 #[.int .i64 tag, .int .i64 num, .string str, .bool is, .int .i64 code]).gr
    clear hlo hhi HR hnum
    go_enter Try.func31, Try.ntmps31
    go_wp2_with fail
    refine wp_region_quiet_below (by kernel_rfl) (by kernel_rfl) ?_
    repeat (any_goals (first | go_big_quiet_step ((fail)) | fail))
    refine wpQuiet_nil ?_
    intro w3 hw'
    have hb3 := class_below hw'
    clear hw'
    go_wp2_with fail
    go_ret
    exact ⟨ret_bool HRF.out.symm, bel_call (bel_alloc (bel_refl w) _) hb3⟩
  rcases (show tag = 0 ∨ tag = 1 ∨ tag = 2 ∨ tag = 3 ∨ tag = 4 by omega) with rfl | rfl | rfl | rfl | rfl
  · obtain ⟨q, hq⟩ : ∃ q, q = eqV 0 num str is code 0 0 ⟨#[]⟩ false 0 := ⟨_, rfl⟩
    have hnq : ∀ W : World, (binOp .neq 44 (.agg #[.int .i64 0, .int .i64 num, .string str, .bool is, .int .i64 code]) (.agg #[.int .i64 0, .int .i64 0, .string ⟨#[]⟩, .bool false, .int .i64 0])).run Try.prog W = .ok (.bool (!q)) W := fun W => by
      rw [hq]
      exact neq_val W _ _ _ _ _ _ _ _ _ _
    have HQ : Hid (q = eqV 0 num str is code 0 0 ⟨#[]⟩ false 0) := hq
    clear hq hlo hhi
    have g1 := (Blk.new w rfl 44 #[.int .i64 0, .int .i64 num, .string str, .bool is, .int .i64 code]).gr
    have hnum' := Lib.hid hnum
    clear hnum
    cases q with
    | false =>
      have HRF : Hid (R = false) := by
        rw [HR.out, pure_0, ← HQ.out]
        first | exact rfl | (show (_ = _); simp)
      simp only [Bool.not_false] at hnq
      go_enter Try.func31, Try.ntmps31
      go_wp2_with fail
      refine wp_region_quiet_below (by kernel_rfl) (by kernel_rfl) ?_
      repeat (any_goals (first | go_big_quiet_step ((first | (go_at_call 41; exact Calls.regrown_of (bare_any _ _ _ _ _ _)))) | fail))
      refine wpQuiet_nil ?_
      intro w3 hw'
      have hb3 := class_below hw'
      clear hw'
      go_wp2_with fail
      go_ret
      exact ⟨ret_bool HRF.out.symm, bel_call (bel_alloc (bel_refl w) _) hb3⟩
    | true =>
      simp only [Bool.not_true] at hnq
      have k1 := Blk.new w rfl 44 #[.int .i64 0, .int .i64 num, .string str, .bool is, .int .i64 code]
      have HRF : Hid (R = true) := by
        rw [HR.out, pure_0, ← HQ.out]
        first | exact rfl | (show (_ = _); simp)
      go_enter Try.func31, Try.ntmps31
      go_wp2_with fail
      refine wp_region_quiet_below (by kernel_rfl) (by kernel_rfl) ?_
      repeat (any_goals (first | go_big_quiet_step ((first | (go_at_call 41; exact Calls.regrown_of (bare_any _ _ _ _ _ _)))) | fail))
      refine wpQuiet_nil ?_
      intro w3 hw'
      have hb3 := class_below hw'
      clear hw'
      have rd1 := (k1.below hb3).rd
      go_wp2_with fail
      go_ret
      exact ⟨ret_bool HRF.out.symm, bel_call (bel_alloc (bel_refl w) _) hb3⟩
  · obtain ⟨q, hq⟩ : ∃ q, q = eqV 1 0 str is code 1 0 ⟨#[]⟩ false 0 := ⟨_, rfl⟩
    have hnq : ∀ W : World, (binOp .neq 44 (.agg #[.int .i64 1, .int .i64 0, .string str, .bool is, .int .i64 code]) (.agg #[.int .i64 1, .int .i64 0, .string ⟨#[]⟩, .bool false, .int .i64 0])).run Try.prog W = .ok (.bool (!q)) W := fun W => by
      rw [hq]
      exact neq_val W _ _ _ _ _ _ _ _ _ _
    have HQ : Hid (q = eqV 1 0 str is code 1 0 ⟨#[]⟩ false 0) := hq
    clear hq hlo hhi
    have g1 := (Blk.new w rfl 44 #[.int .i64 1, .int .i64 num, .string str, .bool is, .int .i64 code]).gr
    have hnum' := Lib.hid hnum
    clear hnum
    cases q with
    | false =>
      have HRF : Hid (R = false) := by
        rw [HR.out, pure_1, ← HQ.out]
        first | exact rfl | (show (_ = _); simp)
      simp only [Bool.not_false] at hnq
      go_enter Try.func31, Try.ntmps31
      go_wp2_with fail
      refine wp_region_quiet_below (by kernel_rfl) (by kernel_rfl) ?_
      repeat (any_goals (first | go_big_quiet_step ((first | (go_at_call 41; exact Calls.regrown_of (bare_any _ _ _ _ _ _)))) | fail))
      refine wpQuiet_nil ?_
      intro w3 hw'
      have hb3 := class_below hw'
      clear hw'
      go_wp2_with fail
      go_ret
      exact ⟨ret_bool HRF.out.symm, bel_call (bel_alloc (bel_refl w) _) hb3⟩
    | true =>
      simp only [Bool.not_true] at hnq
      have k1 := Blk.new w rfl 44 #[.int .i64 1, .int .i64 num, .string str, .bool is, .int .i64 code]
      have HRF : Hid (R = decide (-9223372036854775807 ≤ num)) := by
        rw [HR.out, pure_1, ← HQ.out]
        first | exact rfl | (show (_ = _); simp)
      go_enter Try.func31, Try.ntmps31
      go_wp2_with fail
      refine wp_region_quiet_below (by kernel_rfl) (by kernel_rfl) ?_
      repeat (any_goals (first | go_big_quiet_step ((first | (go_at_call 41; exact Calls.regrown_of (bare_any _ _ _ _ _ _)))) | fail))
      refine wpQuiet_nil ?_
      intro w3 hw'
      have hb3 := class_below hw'
      clear hw'
      have rd1 := (k1.below hb3).rd
      go_wp2_with fail
      refine (dec_any _ _ hnum'.out).mono ?_
      rintro e w4 ⟨rfl, rfl⟩
      go_wp2_with fail
      go_ret
      exact ⟨ret_bool HRF.out.symm, bel_call (bel_alloc (bel_refl w) _) hb3⟩
  · obtain ⟨q, hq⟩ : ∃ q, q = eqV 2 num ⟨#[]⟩ is code 2 0 ⟨#[]⟩ false 0 := ⟨_, rfl⟩
    have hnq : ∀ W : World, (binOp .neq 44 (.agg #[.int .i64 2, .int .i64 num, .string ⟨#[]⟩, .bool is, .int .i64 code]) (.agg #[.int .i64 2, .int .i64 0, .string ⟨#[]⟩, .bool false, .int .i64 0])).run Try.prog W = .ok (.bool (!q)) W := fun W => by
      rw [hq]
      exact neq_val W _ _ _ _ _ _ _ _ _ _
    have HQ : Hid (q = eqV 2 num ⟨#[]⟩ is code 2 0 ⟨#[]⟩ false 0) := hq
    clear hq hlo hhi
    have g1 := (Blk.new w rfl 44 #[.int .i64 2, .int .i64 num, .string str, .bool is, .int .i64 code]).gr
    have hnum' := Lib.hid hnum
    clear hnum
    cases q with
    | false =>
      have HRF : Hid (R = false) := by
        rw [HR.out, pure_2, ← HQ.out]
        first | exact rfl | (show (_ = _); simp)
      simp only [Bool.not_false] at hnq
      go_enter Try.func31, Try.ntmps31
      go_wp2_with fail
      refine wp_region_quiet_below (by kernel_rfl) (by kernel_rfl) ?_
      repeat (any_goals (first | go_big_quiet_step ((first | (go_at_call 41; exact Calls.regrown_of (bare_any _ _ _ _ _ _)))) | fail))
      refine wpQuiet_nil ?_
      intro w3 hw'
      have hb3 := class_below hw'
      clear hw'
      go_wp2_with fail
      go_ret
      exact ⟨ret_bool HRF.out.symm, bel_call (bel_alloc (bel_refl w) _) hb3⟩
    | true =>
      simp only [Bool.not_true] at hnq
      have k1 := Blk.new w rfl 44 #[.int .i64 2, .int .i64 num, .string str, .bool is, .int .i64 code]
      have HRF : Hid (R = true) := by
        rw [HR.out, pure_2, ← HQ.out]
        first | exact rfl | (show (_ = _); simp)
      go_enter Try.func31, Try.ntmps31
      go_wp2_with fail
      refine wp_region_quiet_below (by kernel_rfl) (by kernel_rfl) ?_
      repeat (any_goals (first | go_big_quiet_step ((first | (go_at_call 41; exact Calls.regrown_of (bare_any _ _ _ _ _ _)))) | fail))
      refine wpQuiet_nil ?_
      intro w3 hw'
      have hb3 := class_below hw'
      clear hw'
      have rd1 := (k1.below hb3).rd
      go_wp2_with fail
      go_ret
      exact ⟨ret_bool HRF.out.symm, bel_call (bel_alloc (bel_refl w) _) hb3⟩
  · obtain ⟨q, hq⟩ : ∃ q, q = eqV 3 num str false code 3 0 ⟨#[]⟩ false 0 := ⟨_, rfl⟩
    have hnq : ∀ W : World, (binOp .neq 44 (.agg #[.int .i64 3, .int .i64 num, .string str, .bool false, .int .i64 code]) (.agg #[.int .i64 3, .int .i64 0, .string ⟨#[]⟩, .bool false, .int .i64 0])).run Try.prog W = .ok (.bool (!q)) W := fun W => by
      rw [hq]
      exact neq_val W _ _ _ _ _ _ _ _ _ _
    have HQ : Hid (q = eqV 3 num str false code 3 0 ⟨#[]⟩ false 0) := hq
    clear hq hlo hhi
    have g1 := (Blk.new w rfl 44 #[.int .i64 3, .int .i64 num, .string str, .bool is, .int .i64 code]).gr
    have hnum' := Lib.hid hnum
    clear hnum
    cases q with
    | false =>
      have HRF : Hid (R = false) := by
        rw [HR.out, pure_3, ← HQ.out]
        first | exact rfl | (show (_ = _); simp)
      simp only [Bool.not_false] at hnq
      go_enter Try.func31, Try.ntmps31
      go_wp2_with fail
      refine wp_region_quiet_below (by kernel_rfl) (by kernel_rfl) ?_
      repeat (any_goals (first | go_big_quiet_step ((first | (go_at_call 41; exact Calls.regrown_of (bare_any _ _ _ _ _ _)))) | fail))
      refine wpQuiet_nil ?_
      intro w3 hw'
      have hb3 := class_below hw'
      clear hw'
      go_wp2_with fail
      go_ret
      exact ⟨ret_bool HRF.out.symm, bel_call (bel_alloc (bel_refl w) _) hb3⟩
    | true =>
      simp only [Bool.not_true] at hnq
      have k1 := Blk.new w rfl 44 #[.int .i64 3, .int .i64 num, .string str, .bool is, .int .i64 code]
      have HRF : Hid (R = true) := by
        rw [HR.out, pure_3, ← HQ.out]
        first | exact rfl | (show (_ = _); simp)
      go_enter Try.func31, Try.ntmps31
      go_wp2_with fail
      refine wp_region_quiet_below (by kernel_rfl) (by kernel_rfl) ?_
      repeat (any_goals (first | go_big_quiet_step ((first | (go_at_call 41; exact Calls.regrown_of (bare_any _ _ _ _ _ _)))) | fail))
      refine wpQuiet_nil ?_
      intro w3 hw'
      have hb3 := class_below hw'
      clear hw'
      have rd1 := (k1.below hb3).rd
      go_wp2_with fail
      go_ret
      exact ⟨ret_bool HRF.out.symm, bel_call (bel_alloc (bel_refl w) _) hb3⟩
  · obtain ⟨q, hq⟩ : ∃ q, q = eqV 4 num str is 0 4 0 ⟨#[]⟩ false 0 := ⟨_, rfl⟩
    have hnq : ∀ W : World, (binOp .neq 44 (.agg #[.int .i64 4, .int .i64 num, .string str, .bool is, .int .i64 0]) (.agg #[.int .i64 4, .int .i64 0, .string ⟨#[]⟩, .bool false, .int .i64 0])).run Try.prog W = .ok (.bool (!q)) W := fun W => by
      rw [hq]
      exact neq_val W _ _ _ _ _ _ _ _ _ _
    have HQ : Hid (q = eqV 4 num str is 0 4 0 ⟨#[]⟩ false 0) := hq
    clear hq hlo hhi
    have g1 := (Blk.new w rfl 44 #[.int .i64 4, .int .i64 num, .string str, .bool is, .int .i64 code]).gr
    have hnum' := Lib.hid hnum
    clear hnum
    cases q with
    | false =>
      have HRF : Hid (R = false) := by
        rw [HR.out, pure_4, ← HQ.out]
        first | exact rfl | (show (_ = _); simp)
      simp only [Bool.not_false] at hnq
      go_enter Try.func31, Try.ntmps31
      go_wp2_with fail
      refine wp_region_quiet_below (by kernel_rfl) (by kernel_rfl) ?_
      repeat (any_goals (first | go_big_quiet_step ((first | (go_at_call 41; exact Calls.regrown_of (bare_any _ _ _ _ _ _)))) | fail))
      refine wpQuiet_nil ?_
      intro w3 hw'
      have hb3 := class_below hw'
      clear hw'
      go_wp2_with fail
      go_ret
      exact ⟨ret_bool HRF.out.symm, bel_call (bel_alloc (bel_refl w) _) hb3⟩
    | true =>
      simp only [Bool.not_true] at hnq
      have k1 := Blk.new w rfl 44 #[.int .i64 4, .int .i64 num, .string str, .bool is, .int .i64 code]
      have HRF : Hid (R = (decide (1 ≤ code) && decide (code ≤ 8))) := by
        rw [HR.out, pure_4, ← HQ.out]
        first | exact rfl | (show (_ = _); simp)
      go_enter Try.func31, Try.ntmps31
      go_wp2_with fail
      refine wp_region_quiet_below (by kernel_rfl) (by kernel_rfl) ?_
      repeat (any_goals (first | go_big_quiet_step ((first | (go_at_call 41; exact Calls.regrown_of (bare_any _ _ _ _ _ _)))) | fail))
      refine wpQuiet_nil ?_
      intro w3 hw'
      have hb3 := class_below hw'
      clear hw'
      have rd1 := (k1.below hb3).rd
      go_wp2_with fail
      refine (name_any _ _).mono ?_
      rintro e w4 ⟨s, rfl, hs, hb4⟩
      have HS : Hid (mt s = !(decide (1 ≤ code) && decide (code ≤ 8))) := hs
      clear hs
      go_wp2_with fail
      all_goals
        go_ret
        refine ⟨ret_bool ?_, bel_call (bel_call (bel_alloc (bel_refl w) _) hb3) hb4⟩
        rw [HRF.out]
        have h5 := HS.out
        simp_all [mt]
end Go.Proofs.Ytifmfkofadhieaa

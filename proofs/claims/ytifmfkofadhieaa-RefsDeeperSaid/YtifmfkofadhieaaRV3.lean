/-
  Values: contracts of value.Name and value.May. Conditions: those of each theorem.
-/
import Derived.Test.YtifmfkofadhieaaRV2
namespace Go.Proofs.Ytifmfkofadhieaa
open Go.ChangeShapes Go.WideShapes Go.ChangeAt Go.RowKit Go.Deep Go.Sort

theorem mt_nil : mt ⟨#[]⟩ = true := by simp [mt, go_sem]
theorem names_any (w : World) :
    Calls Try.prog 48 #[] w fun e w' => ∃ s1 s2 s3 s4 s5 s6 s7 s8 : ByteArray, e = .returned (.agg #[.string ⟨#[]⟩, .string s1, .string s2, .string s3, .string s4, .string s5, .string s6, .string s7, .string s8]) ∧
      (mt s1 = false ∧ mt s2 = false ∧ mt s3 = false ∧ mt s4 = false ∧ mt s5 = false ∧ mt s6 = false ∧ mt s7 = false ∧ mt s8 = false) ∧ Below w.heap.size w w' := by
  have key : Calls Try.prog 48 #[] w fun e w' => e = .returned (.agg #[.string ⟨#[]⟩, .string ⟨#[35, 67, 89, 67, 76, 69, 33]⟩, .string ⟨#[35, 78, 85, 77, 33]⟩, .string ⟨#[35, 68, 73, 86, 33]⟩, .string ⟨#[35, 84, 89, 80, 69, 33]⟩, .string ⟨#[35, 82, 65, 78, 71, 69, 33]⟩, .string ⟨#[35, 77, 73, 83, 83, 33]⟩, .string ⟨#[35, 76, 79, 78, 71, 33]⟩, .string ⟨#[35, 65, 82, 71, 33]⟩]) ∧ Below w.heap.size w w' := by
    go_enter Try.func48, Try.ntmps48
    go_wp2_with fail
    exact bodyPost_ret (v := .agg #[.string ⟨#[]⟩, .string ⟨#[35, 67, 89, 67, 76, 69, 33]⟩, .string ⟨#[35, 78, 85, 77, 33]⟩, .string ⟨#[35, 68, 73, 86, 33]⟩, .string ⟨#[35, 84, 89, 80, 69, 33]⟩, .string ⟨#[35, 82, 65, 78, 71, 69, 33]⟩, .string ⟨#[35, 77, 73, 83, 83, 33]⟩, .string ⟨#[35, 76, 79, 78, 71, 33]⟩, .string ⟨#[35, 65, 82, 71, 33]⟩]) (by simp [results, Try.results48, go_sem]) rfl ⟨rfl, bel_alloc (bel_refl w) _⟩
  refine key.mono ?_
  rintro e w' ⟨rfl, hb⟩
  exact ⟨_, _, _, _, _, _, _, _, rfl, ⟨by simp [mt, go_sem], by simp [mt, go_sem], by simp [mt, go_sem], by simp [mt, go_sem], by simp [mt, go_sem], by simp [mt, go_sem], by simp [mt, go_sem], by simp [mt, go_sem]⟩, hb⟩

theorem name_any (c : Int) (w : World) :
    Calls Try.prog 43 #[.int .i64 c] w fun e w' => ∃ s, e = .returned (.string s) ∧ mt s = !(decide (1 ≤ c) && decide (c ≤ 8)) ∧ Below w.heap.size w w' := by
  by_cases h1 : c < 0 ∨ 8 < c
  · have hm : (!(decide (1 ≤ c) && decide (c ≤ 8))) = true := by
      rcases h1 with h | h
      · simp; omega
      · simp; omega
    rw [hm]
    rcases h1 with h | h
    · have h' : decide (c < 0) = true := by simpa using h
      clear hm
      go_enter Try.func43, Try.ntmps43
      go_wp2_with fail
      go_ret
      exact ⟨⟨#[]⟩, rfl, mt_nil, bel_refl w⟩
    · have h' : decide (c < 0) = false := by simp; omega
      clear hm
      go_enter Try.func43, Try.ntmps43
      go_wp2_with fail
      go_ret
      exact ⟨⟨#[]⟩, rfl, mt_nil, bel_refl w⟩
  · rcases (show c = 0 ∨ c = 1 ∨ c = 2 ∨ c = 3 ∨ c = 4 ∨ c = 5 ∨ c = 6 ∨ c = 7 ∨ c = 8 by omega) with rfl | rfl | rfl | rfl | rfl | rfl | rfl | rfl | rfl
    · clear h1
      go_enter Try.func43, Try.ntmps43
      go_wp2_with fail
      refine (names_any _).mono ?_
      rintro e w1 ⟨s1, s2, s3, s4, s5, s6, s7, s8, rfl, hm, hb⟩
      have HM := Lib.hid hm
      clear hm
      have hix : ∀ W : World, (Instr.index 76 (.agg #[.string ⟨#[]⟩, .string s1, .string s2, .string s3, .string s4, .string s5, .string s6, .string s7, .string s8]) (.int .i64 0)).run Try.prog W = .ok (.string ⟨#[]⟩) W := fun _ => by kernel_rfl
      go_wp2_with fail
      go_ret
      obtain ⟨m1, m2, m3, m4, m5, m6, m7, m8⟩ := HM.out
      exact ⟨_, rfl, mt_nil, hb⟩
    · clear h1
      go_enter Try.func43, Try.ntmps43
      go_wp2_with fail
      refine (names_any _).mono ?_
      rintro e w1 ⟨s1, s2, s3, s4, s5, s6, s7, s8, rfl, hm, hb⟩
      have HM := Lib.hid hm
      clear hm
      have hix : ∀ W : World, (Instr.index 76 (.agg #[.string ⟨#[]⟩, .string s1, .string s2, .string s3, .string s4, .string s5, .string s6, .string s7, .string s8]) (.int .i64 1)).run Try.prog W = .ok (.string s1) W := fun _ => by kernel_rfl
      go_wp2_with fail
      go_ret
      obtain ⟨m1, m2, m3, m4, m5, m6, m7, m8⟩ := HM.out
      exact ⟨_, rfl, m1, hb⟩
    · clear h1
      go_enter Try.func43, Try.ntmps43
      go_wp2_with fail
      refine (names_any _).mono ?_
      rintro e w1 ⟨s1, s2, s3, s4, s5, s6, s7, s8, rfl, hm, hb⟩
      have HM := Lib.hid hm
      clear hm
      have hix : ∀ W : World, (Instr.index 76 (.agg #[.string ⟨#[]⟩, .string s1, .string s2, .string s3, .string s4, .string s5, .string s6, .string s7, .string s8]) (.int .i64 2)).run Try.prog W = .ok (.string s2) W := fun _ => by kernel_rfl
      go_wp2_with fail
      go_ret
      obtain ⟨m1, m2, m3, m4, m5, m6, m7, m8⟩ := HM.out
      exact ⟨_, rfl, m2, hb⟩
    · clear h1
      go_enter Try.func43, Try.ntmps43
      go_wp2_with fail
      refine (names_any _).mono ?_
      rintro e w1 ⟨s1, s2, s3, s4, s5, s6, s7, s8, rfl, hm, hb⟩
      have HM := Lib.hid hm
      clear hm
      have hix : ∀ W : World, (Instr.index 76 (.agg #[.string ⟨#[]⟩, .string s1, .string s2, .string s3, .string s4, .string s5, .string s6, .string s7, .string s8]) (.int .i64 3)).run Try.prog W = .ok (.string s3) W := fun _ => by kernel_rfl
      go_wp2_with fail
      go_ret
      obtain ⟨m1, m2, m3, m4, m5, m6, m7, m8⟩ := HM.out
      exact ⟨_, rfl, m3, hb⟩
    · clear h1
      go_enter Try.func43, Try.ntmps43
      go_wp2_with fail
      refine (names_any _).mono ?_
      rintro e w1 ⟨s1, s2, s3, s4, s5, s6, s7, s8, rfl, hm, hb⟩
      have HM := Lib.hid hm
      clear hm
      have hix : ∀ W : World, (Instr.index 76 (.agg #[.string ⟨#[]⟩, .string s1, .string s2, .string s3, .string s4, .string s5, .string s6, .string s7, .string s8]) (.int .i64 4)).run Try.prog W = .ok (.string s4) W := fun _ => by kernel_rfl
      go_wp2_with fail
      go_ret
      obtain ⟨m1, m2, m3, m4, m5, m6, m7, m8⟩ := HM.out
      exact ⟨_, rfl, m4, hb⟩
    · clear h1
      go_enter Try.func43, Try.ntmps43
      go_wp2_with fail
      refine (names_any _).mono ?_
      rintro e w1 ⟨s1, s2, s3, s4, s5, s6, s7, s8, rfl, hm, hb⟩
      have HM := Lib.hid hm
      clear hm
      have hix : ∀ W : World, (Instr.index 76 (.agg #[.string ⟨#[]⟩, .string s1, .string s2, .string s3, .string s4, .string s5, .string s6, .string s7, .string s8]) (.int .i64 5)).run Try.prog W = .ok (.string s5) W := fun _ => by kernel_rfl
      go_wp2_with fail
      go_ret
      obtain ⟨m1, m2, m3, m4, m5, m6, m7, m8⟩ := HM.out
      exact ⟨_, rfl, m5, hb⟩
    · clear h1
      go_enter Try.func43, Try.ntmps43
      go_wp2_with fail
      refine (names_any _).mono ?_
      rintro e w1 ⟨s1, s2, s3, s4, s5, s6, s7, s8, rfl, hm, hb⟩
      have HM := Lib.hid hm
      clear hm
      have hix : ∀ W : World, (Instr.index 76 (.agg #[.string ⟨#[]⟩, .string s1, .string s2, .string s3, .string s4, .string s5, .string s6, .string s7, .string s8]) (.int .i64 6)).run Try.prog W = .ok (.string s6) W := fun _ => by kernel_rfl
      go_wp2_with fail
      go_ret
      obtain ⟨m1, m2, m3, m4, m5, m6, m7, m8⟩ := HM.out
      exact ⟨_, rfl, m6, hb⟩
    · clear h1
      go_enter Try.func43, Try.ntmps43
      go_wp2_with fail
      refine (names_any _).mono ?_
      rintro e w1 ⟨s1, s2, s3, s4, s5, s6, s7, s8, rfl, hm, hb⟩
      have HM := Lib.hid hm
      clear hm
      have hix : ∀ W : World, (Instr.index 76 (.agg #[.string ⟨#[]⟩, .string s1, .string s2, .string s3, .string s4, .string s5, .string s6, .string s7, .string s8]) (.int .i64 7)).run Try.prog W = .ok (.string s7) W := fun _ => by kernel_rfl
      go_wp2_with fail
      go_ret
      obtain ⟨m1, m2, m3, m4, m5, m6, m7, m8⟩ := HM.out
      exact ⟨_, rfl, m7, hb⟩
    · clear h1
      go_enter Try.func43, Try.ntmps43
      go_wp2_with fail
      refine (names_any _).mono ?_
      rintro e w1 ⟨s1, s2, s3, s4, s5, s6, s7, s8, rfl, hm, hb⟩
      have HM := Lib.hid hm
      clear hm
      have hix : ∀ W : World, (Instr.index 76 (.agg #[.string ⟨#[]⟩, .string s1, .string s2, .string s3, .string s4, .string s5, .string s6, .string s7, .string s8]) (.int .i64 8)).run Try.prog W = .ok (.string s8) W := fun _ => by kernel_rfl
      go_wp2_with fail
      go_ret
      obtain ⟨m1, m2, m3, m4, m5, m6, m7, m8⟩ := HM.out
      exact ⟨_, rfl, m8, hb⟩
end Go.Proofs.Ytifmfkofadhieaa

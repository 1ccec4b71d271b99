/-
  Formulas: the law's small living whole. Conditions: none.
-/
import Derived.Test.YtifmfkofadhieaaRCopy
namespace Go.Proofs.Ytifmfkofadhieaa
open Go.ChangeShapes Go.WideShapes Go.ChangeAt Go.RowKit Go.Deep

theorem named3 (a b c : UInt8) (ha : isL a) (hb : isL b) (hc : isL c) (h1 : (⟨#[a, b, c]⟩ : ByteArray).toList ≠ [84, 82, 85, 69]) (h2 : (⟨#[a, b, c]⟩ : ByteArray).toList ≠ [70, 65, 76, 83, 69]) : namedB ⟨#[a, b, c]⟩ = true := by
  have hall : ∀ (s : ByteArray), s = ⟨#[a, b, c]⟩ → ∀ j (h : j < s.size), isL s[j] := by
    rintro s rfl j h
    have hj : j < 3 := h
    rcases (show j = 0 ∨ j = 1 ∨ j = 2 by omega) with rfl | rfl | rfl
    · exact ha
    · exact hb
    · exact hc
  obtain ⟨s, hs⟩ : ∃ s : ByteArray, s = ⟨#[a, b, c]⟩ := ⟨_, rfl⟩
  have hsz : s.size = 3 := by rw [hs]; rfl
  rw [← hs] at h1 h2 ⊢
  have hl := hall s hs
  have sh := shape_of s
  have hp := sh.hl
  have hpl : plOf s = 3 := by
    rcases Nat.lt_or_ge (plOf s) s.size with h | h
    · exact absurd (hl _ h) (sh.l' h)
    · omega
  refine namedB_true ⟨by omega, ⟨h1, h2⟩, by omega, fun j h => .inl (hl j h), by omega⟩
def L4 : List Nd := [⟨3, 0, 0, ⟨#[]⟩, false, 0, 0, 0, 1, 1, 3, 2, 0, ⟨#[]⟩, 0⟩, ⟨5, 0, 0, ⟨#[]⟩, false, 0, 0, 0, 0, 0, 0, 0, 0, ⟨#[83, 85, 77]⟩, 1⟩, ⟨2, 0, 0, ⟨#[]⟩, false, 0, 2, 2, 0, 0, 0, 0, 0, ⟨#[]⟩, 0⟩, ⟨4, 0, 0, ⟨#[]⟩, false, 0, 0, 0, 0, 0, 0, 0, 5, ⟨#[]⟩, 0⟩]
theorem sum_named : namedB ⟨#[83, 85, 77]⟩ = true := named3 83 85 77 ⟨by decide, by decide⟩ ⟨by decide, by decide⟩ ⟨by decide, by decide⟩ (by simp [go_sem]) (by simp [go_sem])
theorem abs_named : namedB ⟨#[65, 66, 83]⟩ = true := named3 65 66 83 ⟨by decide, by decide⟩ ⟨by decide, by decide⟩ ⟨by decide, by decide⟩ (by simp [go_sem]) (by simp [go_sem])
theorem m41 : mayNd ⟨3, 0, 0, ⟨#[]⟩, false, 0, 0, 0, 1, 1, 3, 2, 0, ⟨#[]⟩, 0⟩ = true := (mayN_3 _ _ _ _ _ _ _ _ _ _ _ _ _ _).trans (by simp [mayR, mayB, eqN, eqV])
theorem m42 : mayNd ⟨5, 0, 0, ⟨#[]⟩, false, 0, 0, 0, 0, 0, 0, 0, 0, ⟨#[83, 85, 77]⟩, 1⟩ = true := (mayN_5 _ _ _ _ _ _ _ _ _ _ _ _ _ _).trans (by simp [sum_named, eqN, eqV])
theorem m43 : mayNd ⟨2, 0, 0, ⟨#[]⟩, false, 0, 2, 2, 0, 0, 0, 0, 0, ⟨#[]⟩, 0⟩ = true := (mayN_2 _ _ _ _ _ _ _ _ _ _ _ _ _ _).trans (by simp [mayB, eqN, eqV])
theorem m44 : mayNd ⟨4, 0, 0, ⟨#[]⟩, false, 0, 0, 0, 0, 0, 0, 0, 5, ⟨#[]⟩, 0⟩ = true := (mayN_4 _ _ _ _ _ _ _ _ _ _ _ _ _ _).trans (by simp [eqN, eqV])
theorem run4 : runN L4 [] = some [⟨1, 3, false⟩] := by
  have s1 := step_rect (st := []) m41 rfl
  have s2 := step_call (st := [⟨0, 7, true⟩]) m42 rfl (by decide)
  have s3 := step_else (st := [⟨1, 7, false⟩]) m43 (by decide) (by decide) (by decide)
  have s4 := step_op2 (st := [⟨1, 7, false⟩, ⟨0, 7, false⟩]) (l := 0) m44 rfl rfl rfl rfl rfl
  unfold L4 runN
  rw [s1]
  show runN _ _ = _
  unfold runN
  rw [show ([] ++ [⟨0, 7, true⟩] : List Pt) = [⟨0, 7, true⟩] from rfl, s2]
  show runN _ _ = _
  unfold runN
  rw [show (List.take _ _ ++ _ : List Pt) = [⟨1, 7, false⟩] from rfl, s3]
  show runN _ _ = _
  unfold runN
  rw [show ([⟨1, 7, false⟩] ++ [⟨0, 7, false⟩] : List Pt) = [⟨1, 7, false⟩, ⟨0, 7, false⟩] from rfl, s4]
  rfl
theorem dep4 : depthN L4 = some 1 := (depth_one (by decide) run4).trans (if_neg (by decide))
theorem of4 : ofN L4 = [⟨true, 1, 1, 3, 2⟩, ⟨false, 2, 2, 2, 2⟩] := by
  unfold ofN
  rw [dep4]
  rfl
theorem dep0 : depthN [] = none := depth_size (.inl (by decide))

set_option maxHeartbeats 6400000 in
set_option maxRecDepth 100000 in
theorem lives_any (w : World) : Calls Try.prog 15 #[] w fun e w' => e = .returned (.bool true) ∧ Below w.heap.size w w' := by
  go_enter Try.func15, Try.ntmps15
  go_wp2_with fail
  have kL := (Blk.new (w.alloc (.cells #[.int .i64 1, .int .i64 1, .int .i64 3, .int .i64 2] 35)) (g := w.heap.size + 1) (by simp) 48 #[.int .i64 3, .int .i64 0, .int .i64 0, .string ⟨#[]⟩, .bool false, .int .i64 0, .int .i64 0, .int .i64 0, .int .i64 1, .int .i64 1, .int .i64 3, .int .i64 2, .int .i64 0, .string ⟨#[]⟩, .int .i64 0, .int .i64 5, .int .i64 0, .int .i64 0, .string ⟨#[]⟩, .bool false, .int .i64 0, .int .i64 0, .int .i64 0, .int .i64 0, .int .i64 0, .int .i64 0, .int .i64 0, .int .i64 0, .string ⟨#[83, 85, 77]⟩, .int .i64 1, .int .i64 2, .int .i64 0, .int .i64 0, .string ⟨#[]⟩, .bool false, .int .i64 0, .int .i64 2, .int .i64 2, .int .i64 0, .int .i64 0, .int .i64 0, .int .i64 0, .int .i64 0, .string ⟨#[]⟩, .int .i64 0, .int .i64 4, .int .i64 0, .int .i64 0, .string ⟨#[]⟩, .bool false, .int .i64 0, .int .i64 0, .int .i64 0, .int .i64 0, .int .i64 0, .int .i64 0, .int .i64 0, .int .i64 5, .string ⟨#[]⟩, .int .i64 0]).alloc (.cells #[.slice (some ⟨w.heap.size + 1, 0, none⟩) 4 4] 24)
  have hL0 := Lies.of_blk (K := KN) (L := L4) kL rfl
  have k0 := Blk.new ((w.alloc (.cells #[.int .i64 1, .int .i64 1, .int .i64 3, .int .i64 2] 35)).alloc (.cells #[.int .i64 3, .int .i64 0, .int .i64 0, .string ⟨#[]⟩, .bool false, .int .i64 0, .int .i64 0, .int .i64 0, .int .i64 1, .int .i64 1, .int .i64 3, .int .i64 2, .int .i64 0, .string ⟨#[]⟩, .int .i64 0, .int .i64 5, .int .i64 0, .int .i64 0, .string ⟨#[]⟩, .bool false, .int .i64 0, .int .i64 0, .int .i64 0, .int .i64 0, .int .i64 0, .int .i64 0, .int .i64 0, .int .i64 0, .string ⟨#[83, 85, 77]⟩, .int .i64 1, .int .i64 2, .int .i64 0, .int .i64 0, .string ⟨#[]⟩, .bool false, .int .i64 0, .int .i64 2, .int .i64 2, .int .i64 0, .int .i64 0, .int .i64 0, .int .i64 0, .int .i64 0, .string ⟨#[]⟩, .int .i64 0, .int .i64 4, .int .i64 0, .int .i64 0, .string ⟨#[]⟩, .bool false, .int .i64 0, .int .i64 0, .int .i64 0, .int .i64 0, .int .i64 0, .int .i64 0, .int .i64 0, .int .i64 5, .string ⟨#[]⟩, .int .i64 0] 48)) (g := w.heap.size + 1 + 1) (by simp) 24 #[.slice (some ⟨w.heap.size + 1, 0, none⟩) 4 4]
  have hw0 := bel_alloc (bel_alloc (bel_alloc (bel_refl w) (.cells #[.int .i64 1, .int .i64 1, .int .i64 3, .int .i64 2] 35)) (.cells #[.int .i64 3, .int .i64 0, .int .i64 0, .string ⟨#[]⟩, .bool false, .int .i64 0, .int .i64 0, .int .i64 0, .int .i64 1, .int .i64 1, .int .i64 3, .int .i64 2, .int .i64 0, .string ⟨#[]⟩, .int .i64 0, .int .i64 5, .int .i64 0, .int .i64 0, .string ⟨#[]⟩, .bool false, .int .i64 0, .int .i64 0, .int .i64 0, .int .i64 0, .int .i64 0, .int .i64 0, .int .i64 0, .int .i64 0, .string ⟨#[83, 85, 77]⟩, .int .i64 1, .int .i64 2, .int .i64 0, .int .i64 0, .string ⟨#[]⟩, .bool false, .int .i64 0, .int .i64 2, .int .i64 2, .int .i64 0, .int .i64 0, .int .i64 0, .int .i64 0, .int .i64 0, .string ⟨#[]⟩, .int .i64 0, .int .i64 4, .int .i64 0, .int .i64 0, .string ⟨#[]⟩, .bool false, .int .i64 0, .int .i64 0, .int .i64 0, .int .i64 0, .int .i64 0, .int .i64 0, .int .i64 0, .int .i64 5, .string ⟨#[]⟩, .int .i64 0] 48)) (.cells #[.slice (some ⟨w.heap.size + 1, 0, none⟩) 4 4] 24)
  have hrng : ∀ n, n ∈ L4 → rngN n := by
    intro n hn
    simp only [L4, List.mem_cons, List.not_mem_nil, or_false] at hn
    rcases hn with rfl | rfl | rfl | rfl <;> exact ⟨by decide, ⟨by decide, by decide⟩, ⟨by decide, by decide⟩, by decide, by decide⟩
  have HRNG := Lib.hid hrng
  clear kL hrng
  refine (pcheck_any L4 _ 4 _ hL0 HRNG.out).mono ?_
  rintro e w1 ⟨rfl, hb⟩
  rw [show chkI (depthN L4) = 0 by rw [dep4]; rfl]
  have hL1 := hL0.below hb
  have k1 := k0.below hb
  have hw1 := bel_call hw0 hb
  clear hb
  have rd := k1.rd
  have lt := k1.lt
  go_wp2_with fail
  refine (pcheck_any [] none 0 _ (Lies.nil _ _) (fun n hn => absurd hn (List.not_mem_nil))).mono ?_
  rintro e w2 ⟨rfl, hb⟩
  rw [show chkI (depthN []) = 20 by rw [dep0]; rfl]
  clear rd lt
  have hL2 := hL1.below hb
  have k2 := k1.below hb
  have hw2 := bel_call hw1 hb
  clear hb
  have rd := k2.rd
  have lt := k2.lt
  go_wp2_with fail
  refine (pdepth_any L4 _ 4 _ hL2 HRNG.out).mono ?_
  rintro e w3 ⟨rfl, hb⟩
  rw [show depI (depthN L4) = 1 by rw [dep4]; rfl]
  clear rd lt
  have hL3 := hL2.below hb
  have k3 := k2.below hb
  have hw3 := bel_call hw2 hb
  clear hb
  have rd := k3.rd
  have lt := k3.lt
  go_wp2_with fail
  refine (pof_any L4 _ 4 _ hL3 HRNG.out).mono ?_
  rintro e w4 ⟨v, rfl, hO, hb⟩
  obtain ⟨Ao, co, hv, _⟩ := hO.see
  rw [show (ofN L4).length = 2 by rw [of4]; rfl] at hv
  subst hv
  clear rd lt hO
  have hL4 := hL3.below hb
  have k4 := k3.below hb
  have hw4 := bel_call hw3 hb
  clear hb
  have rd := k4.rd
  have lt := k4.lt
  go_wp2_with fail
  refine (psame_any L4 L4 _ _ 4 4 _ hL4 hL4 (by decide)).mono ?_
  rintro e w5 ⟨rfl, hb⟩
  rw [same_self]
  clear rd lt
  have hL5 := hL4.below hb
  have k5 := k4.below hb
  have hw5 := bel_call hw4 hb
  clear hb
  have rd := k5.rd
  have lt := k5.lt
  go_wp2_with fail
  go_ret
  exact ⟨rfl, hw5⟩
end Go.Proofs.Ytifmfkofadhieaa

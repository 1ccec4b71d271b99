/-
  Comparing rectangles; the contract of oriellaw22.known. Conditions: none.
-/
import Derived.Test.YtocglcngfgpfnaaView4
import Derived.Laws.StructEq
namespace Go.Proofs.Ytocglcngfgpfnaa
open Go.ChangeShapes Go.WideShapes Go.ChangeAt Go.RowKit Go.Deep

theorem eql_rect (w : World) (a b c d a' b' c' d' : Int) :
    (binOp .eql 34 (.agg #[.int .i64 a, .int .i64 b, .int .i64 c, .int .i64 d]) (.agg #[.int .i64 a', .int .i64 b', .int .i64 c', .int .i64 d'])).run Try.prog w = .ok (.bool (decide (a = a' ∧ b = b' ∧ c = c' ∧ d = d'))) w := by
  by_cases h1 : a = a'
  · by_cases h2 : b = b'
    · by_cases h3 : c = c'
      · by_cases h4 : d = d'
        · subst h1 h2 h3 h4
          simp [go_sem]
        · subst h1 h2 h3
          simp [go_sem, h4]
      · subst h1 h2
        simp [go_sem, h3]
    · subst h1
      simp [go_sem, h2]
  · simp [go_sem, h1]

def F1 : Nat → Vw := upd F0 1 ⟨1, 1, 3, 2⟩

set_option maxHeartbeats 800000 in
theorem known_any (w : World) :
    Calls Try.prog 7 #[] w fun e w' => e = .returned (.bool true) ∧ Below w.heap.size w w' := by
  go_enter Try.func7, Try.ntmps7
  go_wp2_with fail
  refine (new_yes 2 _ (by omega) (by omega)).mono ?_
  rintro e w1 ⟨rfl, hR1, hb1⟩
  go_wp2_with fail
  refine (vopen_yes w.heap.size 2 0 F0 3 2 1 1 _ hR1 (by omega) (by omega) (by decide) (by decide) 0 (by omega) (by decide) (by omega)).mono ?_
  rintro e w2 ⟨rfl, hR2, hg2⟩
  have hb2 := below_of_grown hg2 hb1.size (Nat.le_refl _)
  have hR2' : VIs w2 w.heap.size 2 1 F1 := hR2
  go_wp2_with fail
  refine (rect_yes w.heap.size 2 1 F1 1 _ hR2' (by omega) (by decide) (by decide) (by decide) (by decide) (by decide) (by decide)).mono ?_
  rintro e w3 ⟨rfl, hb3⟩
  have hR3 := row_below hR2' hb3
  go_wp2_with fail
  refine (count_any w.heap.size 2 1 F1 _ (hR3.alloc _)).mono ?_
  rintro e w4 ⟨rfl, rfl⟩
  go_wp2_with fail
  go_ret
  refine ⟨rfl, ?_⟩
  exact bel_alloc (bel_call (hb1.trans hb2) hb3) _

theorem new_ex (most : Int) (w : World) (h : 1 ≤ most) (h2 : most ≤ 16) :
    Calls Try.prog 6 #[.int .i64 most] w fun e w' => ∃ b, w.heap.size ≤ b ∧ e = .returned (.tuple #[.pointer (some ⟨b, 0, none⟩), .int .i64 0]) ∧ VIs w' b most 0 F0 ∧ Below w.heap.size w w' :=
  (new_yes most w h h2).mono fun _ _ ⟨he, hR, hb⟩ => ⟨w.heap.size, Nat.le_refl _, he, hR, hb⟩
end Go.Proofs.Ytocglcngfgpfnaa

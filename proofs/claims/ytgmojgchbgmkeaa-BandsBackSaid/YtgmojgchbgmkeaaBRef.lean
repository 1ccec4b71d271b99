/-
  The document's bands: contracts of ahead, pair, Add, Remove. Conditions: those of each theorem.
-/
import Derived.Test.YtgmojgchbgmkeaaBRem
import Derived.Test.YtgmojgchbgmkeaaOlTake
import Derived.Test.YtgmojgchbgmkeaaQb
namespace Go.Proofs.Ytgmojgchbgmkeaa
open Go.ChangeShapes Go.WideShapes Go.ChangeAt Go.RowKit Go.Deep Go.Sort

theorem neq_cell (w : World) (a b c d : Int) : (binOp .neq 33 (.agg #[.int .i64 a, .int .i64 b]) (.agg #[.int .i64 c, .int .i64 d])).run Try.prog w = .ok (.bool (!decide (a = c ∧ b = d))) w := by
  have h : (Op.equalIn (9998 + 2) 33 (.agg #[.int .i64 a, .int .i64 b]) (.agg #[.int .i64 c, .int .i64 d])).run Try.prog w = .ok (decide (a = c ∧ b = d)) w := by
    by_cases h1 : a = c
    · by_cases h2 : b = d
      · simp [go_sem, h1, h2]
      · simp [go_sem, h1, h2]
    · simp [go_sem, h1]
  rw [run_neq_struct, show (10000 : Nat) = 9998 + 2 from rfl, h]
  rfl
theorem pair_any (t l b r row col : Int) (w : World) : Calls Try.prog 23 #[.agg #[.int .i64 t, .int .i64 l, .int .i64 b, .int .i64 r], .agg #[.int .i64 row, .int .i64 col]] w fun e w' => e = .returned (.agg #[.int .i64 row, .int .i64 col, .bool true, .int .i64 t, .int .i64 l, .int .i64 b, .int .i64 r]) ∧ Below w.heap.size w w' := by
  go_enter Try.func23, Try.ntmps23
  go_wp2_with fail
  exact bodyPost_ret (v := .agg #[.int .i64 row, .int .i64 col, .bool true, .int .i64 t, .int .i64 l, .int .i64 b, .int .i64 r]) (by simp [results, Try.results23, go_sem]) rfl ⟨rfl, bel_alloc (bel_alloc (bel_alloc (bel_refl w) _) _) _⟩

theorem ahead_any (xw xc xt xl xb xr yw yc yt yl yb yr : Int) (w : World) :
    Calls Try.prog 24 #[.agg #[.int .i64 xw, .int .i64 xc, .bool true, .int .i64 xt, .int .i64 xl, .int .i64 xb, .int .i64 xr], .agg #[.int .i64 yw, .int .i64 yc, .bool true, .int .i64 yt, .int .i64 yl, .int .i64 yb, .int .i64 yr]] w fun e w' => e = .returned (.bool (decide (ltP ⟨xw, xc, xt, xl, xb, xr⟩ ⟨yw, yc, yt, yl, yb, yr⟩))) ∧ Below w.heap.size w w' := by
  obtain ⟨R, hR⟩ : ∃ R, R = decide (ltP ⟨xw, xc, xt, xl, xb, xr⟩ ⟨yw, yc, yt, yl, yb, yr⟩) := ⟨_, rfl⟩
  rw [← hR]
  have hneq := fun w => neq_cell w xw xc yw yc
  by_cases h1 : xw = yw ∧ xc = yc
  case neg =>
    have hbf : befB xw xc yw yc = R := by
      rw [hR]
      refine decide_eq_decide.2 ?_
      unfold ltP
      dsimp only
      omega
    rw [decide_eq_false h1] at hneq
    clear hR h1
    go_enter Try.func24, Try.ntmps24
    go_wp2_with fail
    refine (rbefore_any xw xc yw yc _).mono ?_
    rintro e w1 ⟨rfl, hb⟩
    rw [hbf]
    have hB := bel_call (bel_alloc (bel_alloc (bel_refl w) _) _) hb
    clear hb hbf
    go_wp2_with fail
    go_ret
    exact ⟨rfl, hB⟩
  rw [decide_eq_true h1] at hneq
  by_cases h2 : xt = yt
  case neg =>
    have b2 : (xt != yt) = true := by rw [bne_iff_ne]; exact h2
    have hd : decide (xt < yt) = R := by
      rw [hR]
      refine decide_eq_decide.2 ?_
      unfold ltP
      dsimp only
      omega
    clear hR h1 h2
    go_enter Try.func24, Try.ntmps24
    go_wp2_with fail
    go_ret
    exact ⟨by simp [← hd], bel_alloc (bel_alloc (bel_alloc (bel_alloc (bel_refl w) _) _) _) _⟩
  have b2 : (xt != yt) = false := by rw [bne_eq_false_iff_eq]; exact h2
  by_cases h3 : xl = yl
  case neg =>
    have b3 : (xl != yl) = true := by rw [bne_iff_ne]; exact h3
    have hd : decide (xl < yl) = R := by
      rw [hR]
      refine decide_eq_decide.2 ?_
      unfold ltP
      dsimp only
      omega
    clear hR h1 h2 h3
    go_enter Try.func24, Try.ntmps24
    go_wp2_with fail
    go_ret
    exact ⟨by simp [← hd], bel_alloc (bel_alloc (bel_alloc (bel_alloc (bel_refl w) _) _) _) _⟩
  have b3 : (xl != yl) = false := by rw [bne_eq_false_iff_eq]; exact h3
  by_cases h4 : xb = yb
  case neg =>
    have b4 : (xb != yb) = true := by rw [bne_iff_ne]; exact h4
    have hd : decide (xb < yb) = R := by
      rw [hR]
      refine decide_eq_decide.2 ?_
      unfold ltP
      dsimp only
      omega
    clear hR h1 h2 h3 h4
    go_enter Try.func24, Try.ntmps24
    go_wp2_with fail
    go_ret
    exact ⟨by simp [← hd], bel_alloc (bel_alloc (bel_alloc (bel_alloc (bel_refl w) _) _) _) _⟩
  have b4 : (xb != yb) = false := by rw [bne_eq_false_iff_eq]; exact h4
  have hd : decide (xr < yr) = R := by
    rw [hR]
    refine decide_eq_decide.2 ?_
    unfold ltP
    dsimp only
    omega
  clear hR h1 h2 h3 h4
  go_enter Try.func24, Try.ntmps24
  go_wp2_with fail
  go_ret
  exact ⟨by simp [← hd], bel_alloc (bel_alloc (bel_alloc (bel_alloc (bel_refl w) _) _) _) _⟩
end Go.Proofs.Ytgmojgchbgmkeaa

/-
  ViewMoves (P22.3, P22.4): the law's given statement is proved. Conditions: none.
-/
import Derived.Test.YtocglcngfgpfnaaMoves
import Derived.Lib.SmallJoins
namespace Go.Proofs.Ytocglcngfgpfnaa
open Go.ChangeShapes Go.WideShapes Go.ChangeAt Go.RowKit Go.Joins

theorem open_cell {H : Type} {enc : TypeId × Value → H} {W : World} {r : Reach} {b0 base : Nat} {sp : Nat → Bool} {hd : Bool} {v : Value} {d : DataW H} {p : List MemPlace}
    (hv : Value.okWide Try.prog W r b0 23 v) (h : DataW.Trod enc Try.prog W base sp hd 23 v d p) :
    ∃ x y : Int, v = .agg #[.int .i64 x, .int .i64 y] ∧ (-9223372036854775808 ≤ x ∧ x ≤ 9223372036854775807) ∧ (-9223372036854775808 ≤ y ∧ y ≤ 9223372036854775807) := by
  obtain ⟨cs, rfl, hsz⟩ := okWide_struct Try.underlying23 hv
  obtain ⟨u0, u1, rfl⟩ := array2 (hsz.trans (by kernel_rfl))
  obtain ⟨fuel, hf⟩ := h
  obtain ⟨x, hx, wx⟩ := leaf_int (n := 3) hf (o := 0) (t' := 3) (by kernel_rfl) Try.underlying3
  obtain ⟨y, hy, wy⟩ := leaf_int (n := 3) hf (o := 1) (t' := 3) (by kernel_rfl) Try.underlying3
  simp [Value.cells] at hx hy
  subst hx hy
  exact ⟨x, y, rfl, i64_of_wf wx, i64_of_wf wy⟩

namespace viewMoves
theorem own : ownKnob Try.prog.godebug = none := by kernel_rfl
theorem laid : laidOutB Try.prog = true := by kernel_rfl

set_option maxRecDepth 100000 in
theorem lifted (os : Os) (started : os.Started) (H : Type) (enc : TypeId × Value → H) :
    ReturnsInHanded {} Try.checked os 3 .any (Rows.viewMovesSpec.pre6 enc Try.prog Try.f3 Rows.viewMovesRow.domain false) (Rows.viewMovesSpec.post enc Try.prog Try.f3 false true false false) := by
  refine returnsInHanded_of_change (C := Try.checked) own started (by kernel_rfl) Try.func3
    (ChangeSpec.witness6 (enc := enc) (C := Try.checked) false ⟨#[], #[.agg #[.int .i64 0, .int .i64 0], .agg #[.int .i64 0, .int .i64 0], .agg #[.int .i64 0, .int .i64 0]], []⟩ 8 (by kernel_rfl) (by kernel_rfl) (by kernel_rfl) (by kernel_rfl)) ?_
  intro W base args ds gs before hval0 hW hcnd _
  have hval : ∀ (j : Nat) t v, Try.f3.params[j]? = some t → args[j]? = some v → Value.okWide Try.prog W .any base t v := hval0
  have hW' := hW
  obtain ⟨p, q, hA0, hV, rfl, hfz, hnd⟩ := hW
  have hA : DataW.TrodAll enc Try.prog W 0 (fun _ => true) true Try.f3.params.toList args.toList ds p := hA0
  rw [Try.params3] at hA hval
  obtain ⟨v0, vs0, d0, ds0, p0, q0, hargs, rfl, rfl, h0, r0⟩ := trodAll_cons hA
  obtain ⟨v1, vs1, d1, ds1, p1, q1, rfl, rfl, rfl, h1, r1⟩ := trodAll_cons r0
  obtain ⟨v2, vs2, d2, ds2, p2, q2, rfl, rfl, rfl, h2, r2⟩ := trodAll_cons r1
  obtain ⟨rfl, rfl, rfl⟩ := trodAll_nil r2
  obtain rfl : args = #[v0, v1, v2] := by cases args; simp_all
  obtain ⟨x0, y0, rfl, _, _⟩ := open_cell (hval 0 23 v0 rfl rfl) h0
  obtain ⟨x1, y1, rfl, _, _⟩ := open_cell (hval 1 23 v1 rfl rfl) h1
  obtain ⟨x2, y2, rfl, z2, z2'⟩ := open_cell (hval 2 23 v2 rfl rfl) h2
  refine (moves_walk x0 y0 x1 y1 x2 y2 W z2 z2').mono fun e W' ⟨he, hb⟩ => ?_
  subst he
  exact ⟨_, rfl, post_true laid rfl (by kernel_rfl) rfl Try.underlying4 hW' ⟨rfl, rfl, rfl⟩ hb⟩

theorem over : Rows.viewMovesRow.holds Try.pinned (OpenSpec.ofChange Rows.viewMovesSpec) :=
  OpenClaim.holds_of_wide 3 Try.f3 rfl rfl rfl rfl rfl rfl rfl ⟨rfl, rfl, rfl, rfl, rfl⟩ rfl rfl rfl rfl rfl (by kernel_rfl) Try.func3 (by kernel_rfl)
    (of_decide_eq_true (by kernel_rfl)) (by unfold Func.isWrapper; rw [if_neg (of_decide_eq_false (by kernel_rfl))]; exact ⟨rfl, rfl⟩)
    (fun os started H enc _ => lifted os started H enc)

theorem proved : Rows.ViewMovesSaid :=
  over
#print axioms proved
end viewMoves
end Go.Proofs.Ytocglcngfgpfnaa

/-
  Guarded steps of a region walked by a tree of plans. Over any program. Conditions: those of each theorem.
-/
import Derived.Test.YtpgnebhlnkoajaaFork
namespace Go.Proofs.Ytpgnebhlnkoajaa
open Go.ChangeShapes Go.WideShapes Go.ChangeAt Go.RowKit Go.Deep

section
variable {P : Program} {ops : Array Oper} {Q : Exit → Act → World → Prop} {C : World → Prop}
variable {S : World → Prop} {tail : List Nat} {r : Pl} {a : Act} {w : World} {i j : Nat} {o : Oper} {b b' : Bool}
theorem tree_qg (hi : ops[i]? = some o) (hg : o.guard = some (j, b)) (hy : yielded ops a.tmps j = some b) (h : ∀ K : Act → Prop, (∀ a', wpTree P ops Q C tail r a' w → K a') → o.quiet P a C K) : wpTree P ops Q C tail (.q i r) a w := by
  show qOp P ops C i _ a
  unfold qOp
  simp only [hi, Region.wanted, hg, hy, beq_self_eq_true, if_true]
  exact h _ fun _ h => h
theorem tree_qn (hi : ops[i]? = some o) (hg : o.guard = some (j, b)) (hy : yielded ops a.tmps j = some b') (hne : (b' == b) = false) (h : wpTree P ops Q C tail r (a.put o.dst undef) w) : wpTree P ops Q C tail (.q i r) a w := by
  show qOp P ops C i _ a
  unfold qOp
  have e : (some b' == some b) = false := by cases b <;> cases b' <;> first | rfl | cases hne
  simp only [hi, Region.wanted, hg, hy, e]
  exact h
theorem tree_ag (hi : ops[i]? = some o) (hg : o.guard = some (j, b)) (hy : yielded ops a.tmps j = some b) (h : ∀ K : Act → World → Prop, (∀ a' w', S w' → wpTree P ops Q (Cls S) tail r a' w' → K a' w') → o.wp P a w K Q) : wpTree P ops Q (Cls S) tail (.a i r) a w := by
  show wpOp P ops Q i _ a w
  unfold wpOp
  simp only [hi, Region.wanted, hg, hy, beq_self_eq_true, if_true]
  exact .inl (h _ fun _ _ hs h => ⟨Cls.of hs, h⟩)
theorem tree_an (hS : S w) (hi : ops[i]? = some o) (hg : o.guard = some (j, b)) (hy : yielded ops a.tmps j = some b') (hne : (b' == b) = false) (h : wpTree P ops Q (Cls S) tail r (a.put o.dst undef) w) : wpTree P ops Q (Cls S) tail (.a i r) a w := by
  show wpOp P ops Q i _ a w
  unfold wpOp
  have e : (some b' == some b) = false := by cases b <;> cases b' <;> first | rfl | cases hne
  simp only [hi, Region.wanted, hg, hy, e]
  exact ⟨Cls.of hS, h⟩
end
end Go.Proofs.Ytpgnebhlnkoajaa

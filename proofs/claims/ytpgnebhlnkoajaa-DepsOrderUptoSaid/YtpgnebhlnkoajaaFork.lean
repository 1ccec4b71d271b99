/-
  A region that draws its order, walked by a plan that is a tree: as in Plan, and where two of what acts may come up at once, both orders are walked. Over any program. Conditions: those of each theorem.
-/
import Derived.Test.YtpgnebhlnkoajaaPlan
namespace Go.Proofs.Ytpgnebhlnkoajaa
open Go.ChangeShapes Go.WideShapes Go.ChangeAt Go.RowKit Go.Deep

inductive Pl where
  | done : Pl
  | q : Nat → Pl → Pl
  | a : Nat → Pl → Pl
  | fork : Nat → Pl → Nat → Pl → Pl

section
variable {P : Program} {ops : Array Oper} {Q : Exit → Act → World → Prop} {md : Region.Mode} {C : World → Prop} {n : Nat}
def treeB (md : Region.Mode) (ops : Array Oper) (n : Nat) (tail : List Nat) : Nat → Pl → Array Bool → Bool
  | f, .done, listed => decide (f = tail.length) && tailSeq md ops tail listed
  | f + 1, .q i r, listed => decide (i < n) && ((ops[i]?).map reader).getD false && (Region.ready md ops listed).contains i && Region.free md ops listed i && treeB md ops n tail f r (listed.setIfInBounds i true)
  | f + 1, .a i r, listed => decide (i < n) && decide (Region.ready md ops listed = [i]) && treeB md ops n tail f r (listed.setIfInBounds i true)
  | f + 1, .fork i ri j rj, listed => decide (i < n) && decide (j < n) && decide (Region.ready md ops listed = [i, j]) && treeB md ops n tail f ri (listed.setIfInBounds i true) && treeB md ops n tail f rj (listed.setIfInBounds j true)
  | 0, _, _ => false

def wpTree (P : Program) (ops : Array Oper) (Q : Exit → Act → World → Prop) (C : World → Prop) (tail : List Nat) : Pl → Act → World → Prop
  | .done, a, w => wpTail P ops Q tail a w
  | .q i r, a, w => qOp P ops C i (fun a' => wpTree P ops Q C tail r a' w) a
  | .a i r, a, w => wpOp P ops Q i (fun a' w' => C w' ∧ wpTree P ops Q C tail r a' w') a w
  | .fork i ri j rj, a, w => wpOp P ops Q i (fun a' w' => C w' ∧ wpTree P ops Q C tail ri a' w') a w ∧ wpOp P ops Q j (fun a' w' => C w' ∧ wpTree P ops Q C tail rj a' w') a w

theorem tree_sound (hs : Region.noSelect ops = true) (hQ : ∀ c a d v w, Q (.panic c) (Act.put a d v) w → Q (.panic c) a w) (ht : tailB md ops n = true) {tail : List Nat} (hn : ∀ i ∈ tail, n ≤ i) :
    ∀ (f : Nat) (r : Pl) (listed : Array Bool) (a : Act) (w : World), HeadInv md ops n listed → C w → treeB md ops n tail f r listed = true → wpTree P ops Q C tail r a w → wpAnyT P md ops Q C n f listed a w
  | f, .done, listed, a, w, _, _, hB, h => by
    simp only [treeB, Bool.and_eq_true, decide_eq_true_eq] at hB
    rw [hB.1]
    exact tail_sound tail listed a w hn hB.2 h
  | 0, .q _ _, _, _, _, _, _, hB, _ => by simp [treeB] at hB
  | 0, .a _ _, _, _, _, _, _, hB, _ => by simp [treeB] at hB
  | 0, .fork _ _ _ _, _, _, _, _, _, hB, _ => by simp [treeB] at hB
  | f + 1, .q i r, listed, a, w, inv, hC, hB, h => by
    simp only [treeB, Bool.and_eq_true, decide_eq_true_eq] at hB
    obtain ⟨⟨⟨⟨h1, h2⟩, h3⟩, h4⟩, h5⟩ := hB
    cases ho : ops[i]? with
    | none => rw [ho] at h2; cases h2
    | some o =>
      rw [ho] at h2
      have h2' : reader o = true := h2
      obtain ⟨v, hy, hK⟩ := yieldsIn_of_qOp ho h
      have hy' : YieldsIf P ops C o v a := hy.imp (fun ⟨hw, hv⟩ => ⟨hw, fun w' hw' => quiet_runs h2' hv w' hw'⟩) id
      have h3' : i ∈ Region.ready md ops listed := by simpa using h3
      exact wpAnyT_first ho (Region.noSelect_spec hs) (fun c a w => hQ c a _ _ w) ht h1 _ listed a w inv (Region.free_spec ho h4) h3' hy' hC
        (tree_sound hs hQ ht hn f r _ _ w (inv.set h3' h1) hC h5 hK)
  | f + 1, .a i r, listed, a, w, inv, hC, hB, h => by
    simp only [treeB, Bool.and_eq_true, decide_eq_true_eq] at hB
    obtain ⟨⟨h1, h2⟩, h3⟩ := hB
    refine ⟨fun h0 => (by rw [h2] at h0; cases h0), fun j hj => ?_⟩
    have hj' := hj
    rw [h2] at hj
    obtain rfl : j = i := by simpa using hj
    exact wpOp_mono (fun a' w' h' => ⟨fun _ => h'.1, tree_sound hs hQ ht hn f r _ a' w' (inv.set hj' h1) h'.1 h3 h'.2⟩) h
  | f + 1, .fork i ri j rj, listed, a, w, inv, hC, hB, h => by
    simp only [treeB, Bool.and_eq_true, decide_eq_true_eq] at hB
    obtain ⟨⟨⟨⟨h1, h2⟩, h3⟩, h4⟩, h5⟩ := hB
    refine ⟨fun h0 => (by rw [h3] at h0; cases h0), fun k hk => ?_⟩
    have hk' := hk
    rw [h3] at hk
    rcases (show k = i ∨ k = j by simpa using hk) with rfl | rfl
    · exact wpOp_mono (fun a' w' h' => ⟨fun _ => h'.1, tree_sound hs hQ ht hn f ri _ a' w' (inv.set hk' h1) h'.1 h4 h'.2⟩) h.1
    · exact wpOp_mono (fun a' w' h' => ⟨fun _ => h'.1, tree_sound hs hQ ht hn f rj _ a' w' (inv.set hk' h2) h'.1 h5 h'.2⟩) h.2

def treeOK (ops : Array Oper) (n : Nat) (r : Pl) (tail : List Nat) : Bool :=
  Region.noSelect ops && tailB .any ops n && (tail.all fun i => decide (n ≤ i)) && treeB .any ops n tail ops.size r (Array.replicate ops.size false)

/-- **A REGION BY A TREE.** -/
theorem wp_region_tree {S : World → Prop} {id : Nat} {a : Act} {w : World} {l : List Oper} (n : Nat) (r : Pl) (tail : List Nat) (hm : P.follows .mixedOrders = true) (hB : treeOK l.toArray n r tail = true)
    (hS : S w.drew) (h : wpTree P l.toArray (NoPanic Q) (Cls S) tail r a w.drew) : (Code.region id l.toArray true).wp P Q a w := by
  refine wp_region_noPanic ?_
  simp only [treeOK, Bool.and_eq_true] at hB
  obtain ⟨⟨⟨h1, h2⟩, h4⟩, h5⟩ := hB
  have inv0 : HeadInv .any l.toArray n (Array.replicate l.toArray.size false) :=
    ⟨by simp, fun j oj _ hl => (by rw [getD_replicate_false] at hl; cases hl), fun t _ ht => getD_in (by simpa using ht) (getD_replicate_false _ _)⟩
  refine wp_region_any hm (wpAny_of_T (C := Cls S) (n := n) _ _ _ _ ?_)
  exact tree_sound (Q := NoPanic Q) (C := Cls S) h1 (fun _ _ _ _ _ h => h) h2 (tail := tail) (fun i hi => by have := List.all_eq_true.1 h4 i hi; simpa using this) _ r _ a w.drew inv0 (Cls.of hS) h5 h

section
variable {S : World → Prop} {tail : List Nat} {r r' : Pl} {a : Act} {w : World} {i j : Nat} {o o' : Oper}
theorem tree_q (hi : ops[i]? = some o) (hg : o.guard = none) (h : ∀ K : Act → Prop, (∀ a', wpTree P ops Q C tail r a' w → K a') → o.quiet P a C K) : wpTree P ops Q C tail (.q i r) a w := by
  show qOp P ops C i _ a
  unfold qOp
  simp only [hi, Region.wanted, hg, if_true]
  exact h _ fun _ h => h
theorem tree_op (hi : ops[i]? = some o) (hg : o.guard = none) (h : ∀ K : Act → World → Prop, (∀ a' w', S w' → wpTree P ops Q (Cls S) tail r a' w' → K a' w') → o.wp P a w K Q) : wpOp P ops Q i (fun a' w' => Cls S w' ∧ wpTree P ops Q (Cls S) tail r a' w') a w := by
  unfold wpOp
  simp only [hi, Region.wanted, hg, if_true]
  exact .inl (h _ fun _ _ hs h => ⟨Cls.of hs, h⟩)
theorem tree_a (hi : ops[i]? = some o) (hg : o.guard = none) (h : ∀ K : Act → World → Prop, (∀ a' w', S w' → wpTree P ops Q (Cls S) tail r a' w' → K a' w') → o.wp P a w K Q) : wpTree P ops Q (Cls S) tail (.a i r) a w := tree_op hi hg h
theorem tree_f (hi : ops[i]? = some o) (hg : o.guard = none) (hj : ops[j]? = some o') (hg' : o'.guard = none) (h : ∀ K : Act → World → Prop, (∀ a' w', S w' → wpTree P ops Q (Cls S) tail r a' w' → K a' w') → o.wp P a w K Q)
    (h' : ∀ K : Act → World → Prop, (∀ a' w', S w' → wpTree P ops Q (Cls S) tail r' a' w' → K a' w') → o'.wp P a w K Q) : wpTree P ops Q (Cls S) tail (.fork i r j r') a w := ⟨tree_op hi hg h, tree_op hj hg' h'⟩
theorem tree_nil (h : Q .normal a w) : wpTree P ops (NoPanic Q) C [] .done a w := h
theorem tree_t (h : wpTail P ops Q tail a w) : wpTree P ops Q C tail .done a w := h
end
end
end Go.Proofs.Ytpgnebhlnkoajaa

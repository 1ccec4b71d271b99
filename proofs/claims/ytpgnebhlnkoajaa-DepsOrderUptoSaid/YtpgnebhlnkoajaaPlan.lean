/-
  A region that draws its order, walked by a plan: what only reads is taken as soon as it can come up, what acts (makes memory, writes, calls) comes in the one order that the region's edges leave; a condition on the world holds till the region's tail, so that what is read is the same whenever it is read. Over any program. Conditions: those of each theorem.
-/
import Derived.Test.YtpgnebhlnkoajaaGen
import Derived.OrdersHeld
import Derived.StillTail
import Derived.Deep.Quiet
import Derived.Deep.RegionHeld3
namespace Go.Proofs.Ytpgnebhlnkoajaa
open Go.ChangeShapes Go.WideShapes Go.ChangeAt Go.RowKit Go.Deep

/-- A world that meets S. -/
structure Held (S : World → Prop) where
  w : World
  h : S w
theorem held_of {S S' : World → Prop} (h : S = S') (x : Held S) : S' x.w := by
  subst h
  exact x.h
theorem held_in {S S' : World → Prop} {w : World} (h : S = S') (h' : S' w) : S w := by
  subst h
  exact h'
/-- The class of these. -/
def Cls (S : World → Prop) (w : World) : Prop := ∃ x : Held S, w = x.w
theorem Cls.of {S : World → Prop} {w : World} (h : S w) : Cls S w := ⟨⟨w, h⟩, rfl⟩
theorem Cls.out {S : World → Prop} {w : World} (h : Cls S w) : S w := by
  obtain ⟨x, rfl⟩ := h
  exact x.h

/-- What only reads: it yields a value or halts. -/
def reader (o : Oper) : Bool := match o.op with
  | .move _ | .assign _ | .pick _ _ _ | .build _ _ | .load _ _ | .nilCheck _ | .binOp _ _ _ _ _ | .unOp _ _ _ | .slice _ _ _ _ _ | .fieldAddr _ _ _ | .field _ _ _ | .indexAddr _ _ _ | .index _ _ _ | .lookup _ _ _ _ | .extract _ _ => true
  | .call c => match c.callee with
    | .builtin .len | .builtin .cap | .builtin .min | .builtin .max => true
    | _ => false
  | _ => false

section
variable {P : Program} {ops : Array Oper} {Q : Exit → Act → World → Prop} {md : Region.Mode} {C : World → Prop} {n : Nat}

def OnlyV (s : Sem Next) : Prop := ∀ (P : Program) (w : World) (x : Next) (w' : World), s.run P w = .ok x w' → ∃ u, x = .value u
theorem OnlyV.value (v : Value) : OnlyV (pure (.value v)) := fun P w x w' h => by
  simp only [Sem.run_pure] at h
  injection h with h _
  exact ⟨v, h.symm⟩
theorem OnlyV.bind {α : Type} (s : Sem α) {f : α → Sem Next} (hf : ∀ x, OnlyV (f x)) : OnlyV (s >>= f) := fun P w x w' h => by
  rw [Sem.run_bind] at h
  cases hs : s.run P w with
  | ok y w1 =>
    rw [hs] at h
    exact hf y P w1 x w' h
  | halt y w1 =>
    rw [hs] at h
    cases h
theorem OnlyV.v (s : Sem Value) : OnlyV (do pure (.value (← s))) := OnlyV.bind s fun _ => OnlyV.value _
theorem OnlyV.nil : OnlyV (runtimePanic .nilDeref) := by
  intro P w x w' h
  simp [runtimePanic, goPanic] at h
theorem OnlyV.unsupported (e : Unsupported) : OnlyV (Go.unsupported e) := fun P w x w' h => by simp [Go.unsupported] at h

theorem reader_value {o : Oper} (hr : reader o = true) (ρ : Operand → Value) : OnlyV (execOp ρ o) := by
  unfold reader at hr
  unfold execOp
  split at hr
  all_goals rename_i e
  all_goals simp only [e]
  all_goals first
    | exact OnlyV.v _
    | exact OnlyV.value _
    | (cases hr; done)
    | skip
  · exact OnlyV.bind _ fun _ => OnlyV.value _
  · split
    · exact OnlyV.nil
    · exact OnlyV.nil
    · exact OnlyV.nil
    · split
      · exact OnlyV.nil
      · refine OnlyV.bind _ fun p => OnlyV.bind _ fun b => ?_
        split
        · exact OnlyV.bind _ fun _ => OnlyV.value _
        · exact OnlyV.value _
      · exact OnlyV.value _
    · exact OnlyV.value _
  · rename_i c
    have hb : ∃ b, c.callee = .builtin b ∧ (b = .len ∨ b = .cap ∨ b = .min ∨ b = .max) := by
      revert hr
      cases hc : c.callee with
      | builtin b => cases b <;> simp
      | value f => simp
      | invoke r m => simp
    obtain ⟨b, hc, hb⟩ := hb
    intro P w x w' h
    simp only [resolve, hc, Sem.run_bind, Sem.run_pure, Result.andThen_ok, invoke] at h
    rcases hb with rfl | rfl | rfl | rfl <;> simp only [builtin] at h <;> exact OnlyV.v _ P w x w' h

theorem quiet_runs {o : Oper} {a : Act} {v : Value} (hr : reader o = true) (h : ∀ w, C w → o.quietAt P a C w v) (w : World) (hw : C w) : (execOp a.eval o).run P w = .ok (.value v) w := by
  have h1 := h w hw
  unfold Oper.quietAt at h1
  cases hx : (execOp a.eval o).run P w with
  | ok x w' =>
    rw [hx] at h1
    obtain ⟨u, rfl⟩ := reader_value hr a.eval P w x w' hx
    obtain ⟨e1, e2⟩ := h1
    rw [e1, e2]
  | halt x w' =>
    rw [hx] at h1
    exact h1.elim

/-- Whatever order is picked; the class holds behind each operation ahead of the tail. -/
def wpAnyT (P : Program) (md : Region.Mode) (ops : Array Oper) (Q : Exit → Act → World → Prop) (C : World → Prop) (n : Nat) : Nat → Array Bool → Act → World → Prop
  | 0, listed, a, w => Region.ready md ops listed = [] ∧ Q .normal a w
  | f + 1, listed, a, w => (Region.ready md ops listed = [] → Q .normal a w) ∧
      ∀ i ∈ Region.ready md ops listed, wpOp P ops Q i (fun a' w' => (i < n → C w') ∧ wpAnyT P md ops Q C n f (listed.setIfInBounds i true) a' w') a w
theorem wpAny_of_T : ∀ (f : Nat) (listed : Array Bool) (a : Act) (w : World), wpAnyT P md ops Q C n f listed a w → wpAny P md ops Q f listed a w
  | 0, _, _, _, h => h
  | f + 1, _, _, _, h => ⟨h.1, fun i hi => wpOp_mono (fun a' w' h' => wpAny_of_T f _ a' w' h'.2) (h.2 i hi)⟩

/-- No tail, or a tail that waits for all. -/
def tailB (md : Region.Mode) (ops : Array Oper) (n : Nat) : Bool := decide (n = ops.size) || (decide (n < ops.size) && Region.sinkB md ops n && Region.chainB md ops n)
theorem tail_last {listed : Array Bool} (ht : tailB md ops n = true) (inv : HeadInv md ops n listed) {i : Nat} (hi : i < n) (hun : listed.getD i true = false) {j : Nat} (hj : j ∈ Region.ready md ops listed) : j < n := by
  simp only [tailB, Bool.or_eq_true, Bool.and_eq_true, decide_eq_true_eq] at ht
  rcases ht with rfl | ⟨⟨h1, h2⟩, h3⟩
  · obtain ⟨_, oj, hoj, _⟩ := mem_ready.1 hj
    exact (Array.getElem?_eq_some_iff.1 hoj).1
  · rcases Nat.lt_or_ge j n with h | h
    · exact h
    · exact absurd hj (tail_waits h2 h3 h1 inv (n - i) i rfl hi hun j h)

theorem wpAnyT_first {i : Nat} {oi : Oper} {v : Value} (hi : ops[i]? = some oi) (hsel : ∀ (j : Nat) (o : Oper) cs b, ops[j]? = some o → o.op ≠ .select cs b)
    (hQ : ∀ c a w, Q (.panic c) (a.put oi.dst v) w → Q (.panic c) a w) (ht : tailB md ops n = true) (hin : i < n) :
    ∀ (fuel : Nat) (listed : Array Bool) (a : Act) (w : World), HeadInv md ops n listed →
      (∀ j oj, ops[j]? = some oj → j ≠ i → listed.getD j true = false → (∀ e ∈ oj.after, Region.binds md e = true → e.on ≠ i) → oi.apart ops oj = true) →
      i ∈ Region.ready md ops listed → YieldsIf P ops C oi v a → C w →
      wpAnyT P md ops Q C n fuel (listed.setIfInBounds i true) (a.put oi.dst v) w → wpAnyT P md ops Q C n (fuel + 1) listed a w := by
  intro fuel
  induction fuel with
  | zero =>
    intro listed a w inv _ hr hy hS H
    refine ⟨fun h => (by rw [h] at hr; cases hr), fun j hj => ?_⟩
    by_cases hji : j = i
    · subst hji; exact hy.wpOp hi hS ⟨fun _ => hS, H⟩
    · have := ready_mono hj hji
      rw [H.1] at this
      cases this
  | succ fuel ih =>
    intro listed a w inv hfree hr hy hS H
    refine ⟨fun h => (by rw [h] at hr; cases hr), fun j hj => ?_⟩
    by_cases hji : j = i
    · subst hji; exact hy.wpOp hi hS ⟨fun _ => hS, H⟩
    · have hjn : j < n := tail_last ht inv hin (mem_ready.1 hr).1 hj
      have h1 := H.2 j (ready_mono hj hji)
      obtain ⟨hjun, oj, hoj, hall⟩ := mem_ready.1 hj
      have hnot : ∀ e ∈ oj.after, Region.binds md e = true → e.on ≠ i := fun e he hb heq => by
        have h1 := hall e he hb
        have h0 := (mem_ready.1 hr).1
        rw [heq] at h1
        rcases Nat.lt_or_ge i listed.size with h' | h'
        · simp [h'] at h0 h1; rw [h0] at h1; cases h1
        · simp [Array.getElem?_eq_none h'] at h1
      have h2 := wpOp_putIf hoj (hfree j oj hoj hji hjun hnot) (fun cs b => hsel i oi cs b hi) (fun cs b => hsel j oj cs b hoj) hQ hy h1
      have hfree' : ∀ k ok, ops[k]? = some ok → k ≠ i → (listed.setIfInBounds j true).getD k true = false →
          (∀ e ∈ ok.after, Region.binds md e = true → e.on ≠ i) → oi.apart ops ok = true := fun k ok hk hki hun hno => by
        refine hfree k ok hk hki ?_ hno
        by_cases hjk : j = k
        · subst hjk; exact hjun
        · rw [getD_set_ne true hjk] at hun; exact hun
      refine wpOp_mono (fun a' w' h3 => ⟨h3.2.1, ih (listed.setIfInBounds j true) a' w' (inv.set hj hjn) hfree' (ready_mono hr (Ne.symm hji)) h3.1 (h3.2.1 hjn) ?_⟩) h2
      rw [Array.setIfInBounds_comm _ _ hji]
      exact h3.2.2

/-- The tail: one behind the other. -/
def tailSeq (md : Region.Mode) (ops : Array Oper) : List Nat → Array Bool → Bool
  | [], listed => (Region.ready md ops listed).isEmpty
  | i :: r, listed => decide (Region.ready md ops listed = [i]) && tailSeq md ops r (listed.setIfInBounds i true)
/-- The plan fits the region: each reader may come up and is free of what may come ahead of it; what acts is the one that may come up. -/
def planB (md : Region.Mode) (ops : Array Oper) (n : Nat) (tail : List Nat) : List (Nat × Bool) → Array Bool → Bool
  | [], listed => tailSeq md ops tail listed
  | (i, true) :: r, listed => decide (i < n) && ((ops[i]?).map reader).getD false && (Region.ready md ops listed).contains i && Region.free md ops listed i && planB md ops n tail r (listed.setIfInBounds i true)
  | (i, false) :: r, listed => decide (i < n) && decide (Region.ready md ops listed = [i]) && planB md ops n tail r (listed.setIfInBounds i true)

def wpTail (P : Program) (ops : Array Oper) (Q : Exit → Act → World → Prop) : List Nat → Act → World → Prop
  | [], a, w => Q .normal a w
  | i :: r, a, w => wpOp P ops Q i (wpTail P ops Q r) a w
def wpPlan (P : Program) (ops : Array Oper) (Q : Exit → Act → World → Prop) (C : World → Prop) (tail : List Nat) : List (Nat × Bool) → Act → World → Prop
  | [], a, w => wpTail P ops Q tail a w
  | (i, true) :: r, a, w => qOp P ops C i (fun a' => wpPlan P ops Q C tail r a' w) a
  | (i, false) :: r, a, w => wpOp P ops Q i (fun a' w' => C w' ∧ wpPlan P ops Q C tail r a' w') a w

theorem tail_sound : ∀ (tail : List Nat) (listed : Array Bool) (a : Act) (w : World), (∀ i ∈ tail, n ≤ i) → tailSeq md ops tail listed = true → wpTail P ops Q tail a w → wpAnyT P md ops Q C n tail.length listed a w
  | [], _, _, _, _, hB, h => ⟨by simpa [tailSeq] using hB, h⟩
  | i :: r, listed, a, w, hn, hB, h => by
    simp only [tailSeq, Bool.and_eq_true, decide_eq_true_eq] at hB
    refine ⟨fun h0 => (by rw [hB.1] at h0; cases h0), fun j hj => ?_⟩
    rw [hB.1] at hj
    obtain rfl : j = i := by simpa using hj
    exact wpOp_mono (fun a' w' h' => ⟨fun hlt => absurd hlt (by have := hn j (by simp); omega), tail_sound r _ a' w' (fun k hk => hn k (by simp [hk])) hB.2 h'⟩) h

theorem plan_sound (hs : Region.noSelect ops = true) (hQ : ∀ c a d v w, Q (.panic c) (Act.put a d v) w → Q (.panic c) a w) (ht : tailB md ops n = true) {tail : List Nat} (hn : ∀ i ∈ tail, n ≤ i) :
    ∀ (r : List (Nat × Bool)) (listed : Array Bool) (a : Act) (w : World), HeadInv md ops n listed → C w → planB md ops n tail r listed = true → wpPlan P ops Q C tail r a w → wpAnyT P md ops Q C n (r.length + tail.length) listed a w
  | [], listed, a, w, _, _, hB, h => by
    rw [List.length_nil, Nat.zero_add]
    exact tail_sound tail listed a w hn hB h
  | (i, true) :: r, listed, a, w, inv, hC, hB, h => by
    simp only [planB, Bool.and_eq_true, decide_eq_true_eq] at hB
    obtain ⟨⟨⟨⟨h1, h2⟩, h3⟩, h4⟩, h5⟩ := hB
    cases ho : ops[i]? with
    | none => rw [ho] at h2; cases h2
    | some o =>
      rw [ho] at h2
      have h2' : reader o = true := h2
      obtain ⟨v, hy, hK⟩ := yieldsIn_of_qOp ho h
      have hy' : YieldsIf P ops C o v a := hy.imp (fun ⟨hw, hv⟩ => ⟨hw, fun w' hw' => quiet_runs h2' hv w' hw'⟩) id
      rw [List.length_cons, Nat.add_right_comm]
      have h3' : i ∈ Region.ready md ops listed := by simpa using h3
      exact wpAnyT_first ho (Region.noSelect_spec hs) (fun c a w => hQ c a _ _ w) ht h1 _ listed a w inv (Region.free_spec ho h4) h3' hy' hC
        (plan_sound hs hQ ht hn r _ _ w (inv.set h3' h1) hC h5 hK)
  | (i, false) :: r, listed, a, w, inv, hC, hB, h => by
    simp only [planB, Bool.and_eq_true, decide_eq_true_eq] at hB
    obtain ⟨⟨h1, h2⟩, h3⟩ := hB
    rw [List.length_cons, Nat.add_right_comm]
    refine ⟨fun h0 => (by rw [h2] at h0; cases h0), fun j hj => ?_⟩
    have hj' := hj
    rw [h2] at hj
    obtain rfl : j = i := by simpa using hj
    exact wpOp_mono (fun a' w' h' => ⟨fun _ => h'.1, plan_sound hs hQ ht hn r _ a' w' (inv.set hj' h1) h'.1 h3 h'.2⟩) h

/-- What is asked of a region's text: one Bool. -/
def planOK (ops : Array Oper) (n : Nat) (r : List (Nat × Bool)) (tail : List Nat) : Bool :=
  Region.noSelect ops && tailB .any ops n && decide (r.length + tail.length = ops.size) && (tail.all fun i => decide (n ≤ i)) && planB .any ops n tail r (Array.replicate ops.size false)

/-- **A REGION BY A PLAN.** -/
theorem wp_region_plan {S : World → Prop} {id : Nat} {a : Act} {w : World} {l : List Oper} (n : Nat) (r : List (Nat × Bool)) (tail : List Nat) (hm : P.follows .mixedOrders = true) (hB : planOK l.toArray n r tail = true)
    (hS : S w.drew) (h : wpPlan P l.toArray (NoPanic Q) (Cls S) tail r a w.drew) : (Code.region id l.toArray true).wp P Q a w := by
  refine wp_region_noPanic ?_
  simp only [planOK, Bool.and_eq_true, decide_eq_true_eq] at hB
  obtain ⟨⟨⟨⟨h1, h2⟩, h3⟩, h4⟩, h5⟩ := hB
  have inv0 : HeadInv .any l.toArray n (Array.replicate l.toArray.size false) :=
    ⟨by simp, fun j oj _ hl => (by rw [getD_replicate_false] at hl; cases hl), fun t _ ht => getD_in (by simpa using ht) (getD_replicate_false _ _)⟩
  refine wp_region_any hm (wpAny_of_T (C := Cls S) (n := n) _ _ _ _ ?_)
  have := plan_sound (Q := NoPanic Q) (C := Cls S) h1 (fun _ _ _ _ _ h => h) h2 (tail := tail) (fun i hi => by have := List.all_eq_true.1 h4 i hi; simpa using this) r _ a w.drew inv0 (Cls.of hS) h5 h
  rw [h3] at this
  exact this

/-! The steps of such a walk. -/
section
variable {S : World → Prop} {tail : List Nat} {r : List (Nat × Bool)} {a : Act} {w : World} {i : Nat} {o : Oper}
theorem plan_q (hi : ops[i]? = some o) (hg : o.guard = none) (h : ∀ K : Act → Prop, (∀ a', wpPlan P ops Q C tail r a' w → K a') → o.quiet P a C K) : wpPlan P ops Q C tail ((i, true) :: r) a w := by
  show qOp P ops C i _ a
  unfold qOp
  simp only [hi, Region.wanted, hg, if_true]
  exact h _ fun _ h => h
theorem plan_a (hi : ops[i]? = some o) (hg : o.guard = none) (h : ∀ K : Act → World → Prop, (∀ a' w', S w' → wpPlan P ops Q (Cls S) tail r a' w' → K a' w') → o.wp P a w K Q) : wpPlan P ops Q (Cls S) tail ((i, false) :: r) a w := by
  show wpOp P ops Q i _ a w
  unfold wpOp
  simp only [hi, Region.wanted, hg, if_true]
  exact .inl (h _ fun _ _ hs h => ⟨Cls.of hs, h⟩)
theorem plan_t (h : wpTail P ops Q tail a w) : wpPlan P ops Q C tail [] a w := h
theorem tail_a {r : List Nat} (hi : ops[i]? = some o) (hg : o.guard = none) (h : ∀ K : Act → World → Prop, (∀ a' w', wpTail P ops Q r a' w' → K a' w') → o.wp P a w K Q) : wpTail P ops Q (i :: r) a w := by
  show wpOp P ops Q i _ a w
  unfold wpOp
  simp only [hi, Region.wanted, hg, if_true]
  exact .inl (h _ fun _ _ h => h)
theorem tail_nil (h : Q .normal a w) : wpTail P ops (NoPanic Q) [] a w := h
theorem plan_nil (h : Q .normal a w) : wpPlan P ops (NoPanic Q) C [] [] a w := h
end
end

/-- append of one list to another, as an operation by itself. -/
theorem op_ol_append {α : Type} {K : Knd α} {w : World} {B : Nat} {v : Value} {L : List α} {P : Program} {z : Value} {T : TypeId} (hinfo : (P.info? K.t).map (fun i => (i.zero, i.size, i.bytes)) = some (some z, K.size, K.bytes)) (hz : z.cells.size = K.size) (hT : P.underlying T = some (.slice K.t))
    {o : Oper} {a : Act} {K' : Act → World → Prop} {Q : Exit → Act → World → Prop} (s x : Operand)
    (ho : o.op = .call { callee := .builtin .append, args := #[s, x], argTypes := #[T, T] }) (hs : a.eval s = v)
    (hL : OL K w B v L) {A : Option Addr} {M : List α} {c m : Nat} (hx : a.eval x = .slice A m c) (hm : M.length = m) (hM : Lies K w A M) (h63 : L.length + m ≤ maxLen) (hl : (L.length + m) * K.bytes ≤ 140737488355328) (hB : B ≤ w.heap.size)
    (h : ∀ v' w', OL K w' B v' (L ++ M) → w.grownBy w' v.ownBlock → K' (a.put o.dst v') w') : Oper.wp P o a w K' Q := by
  subst hm
  obtain ⟨v', w', hr, h2, h3⟩ := run_ol_append (ty := o.type) hinfo hz hT hL hM (c := c) h63 hl hB
  unfold Oper.wp execOp
  simp only [ho, resolve, invoke, builtin, Sem.run_bind, Sem.run_pure, Result.andThen_ok, List.map_toArray, List.map_cons, List.map_nil, hs, hx, hr]
  exact h v' w' h2 h3
end Go.Proofs.Ytpgnebhlnkoajaa

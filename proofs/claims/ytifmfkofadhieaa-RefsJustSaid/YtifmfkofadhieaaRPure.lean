/-
  Formulas, plain: what a row of nodes comes to keeps within bounds; how runN goes on. Conditions: those of each theorem.
-/
import Derived.Test.YtifmfkofadhieaaRPart
namespace Go.Proofs.Ytifmfkofadhieaa

theorem mayN_args {tag num : Int} {str : ByteArray} {is : Bool} {code row col t l b r op : Int} {name : ByteArray} {args : Int} (h : mayN 5 tag num str is code row col t l b r op name args = true) : 0 ≤ args ∧ args ≤ 16 := by
  rw [mayN_5] at h
  simp only [Bool.and_eq_true, decide_eq_true_eq] at h
  exact ⟨h.1.1.2, h.1.2⟩
def Good (n : Nat) (st : List Pt) : Prop := st.length ≤ n ∧ ∀ p, p ∈ st → p.d ≤ n ∧ p.bi ≤ 7
theorem good_nil : Good 0 [] := ⟨Nat.le_refl _, fun p h => by simp at h⟩
theorem good_put {n m : Nat} {st : List Pt} {p : Pt} (h : Good n st) (hm : m ≤ st.length) (hd : p.d ≤ n + 1) (hb : p.bi ≤ 7) : Good (n + 1) (st.take m ++ [p]) := by
  refine ⟨?_, fun q hq => ?_⟩
  · have := h.1
    simp
    omega
  · rcases List.mem_append.1 hq with hq | hq
    · have := h.2 q (List.mem_of_mem_take hq)
      omega
    · rw [List.mem_singleton.1 hq]
      exact ⟨hd, hb⟩
theorem good_push {n : Nat} {st : List Pt} {p : Pt} (h : Good n st) (hd : p.d ≤ n + 1) (hb : p.bi ≤ 7) : Good (n + 1) (st ++ [p]) := by
  have := good_put h (Nat.le_refl _) hd hb
  rwa [List.take_length] at this
theorem good_mxd {n : Nat} {st : List Pt} (h : Good n st) (m : Nat) : mxd (st.drop m) ≤ n := mxd_le _ _ fun q hq => (h.2 q (List.mem_of_mem_drop hq)).1

section
variable {x : Nd} {st : List Pt}
theorem step_no (h : mayNd x = false) : stepN x st = none := by
  unfold stepN
  rw [if_pos h]
theorem step_rect (h : mayNd x = true) (hk : x.k = 3) : stepN x st = some (st ++ [⟨0, 7, true⟩]) := by
  unfold stepN
  rw [if_neg (by simp [h]), if_pos hk]
theorem step_else (h : mayNd x = true) (h3 : x.k ≠ 3) (h4 : x.k ≠ 4) (h5 : x.k ≠ 5) : stepN x st = some (st ++ [⟨0, 7, false⟩]) := by
  unfold stepN
  rw [if_neg (by simp [h]), if_neg h3, if_neg h4, if_neg h5]
theorem step_call_no (h : mayNd x = true) (hk : x.k = 5) (hl : st.length < x.args.toNat) : stepN x st = none := by
  unfold stepN
  rw [if_neg (by simp [h]), if_neg (by omega), if_neg (by omega), if_pos hk, if_pos hl]
theorem step_call (h : mayNd x = true) (hk : x.k = 5) (hl : x.args.toNat ≤ st.length) : stepN x st = some (st.take (st.length - x.args.toNat) ++ [⟨mxd (st.drop (st.length - x.args.toNat)) + 1, 7, false⟩]) := by
  unfold stepN
  rw [if_neg (by simp [h]), if_neg (by omega), if_neg (by omega), if_pos hk, if_neg (by omega)]
theorem step_op_no (h : mayNd x = true) (hk : x.k = 4) (hl : st.length < opq x.op) : stepN x st = none := by
  unfold stepN
  rw [if_neg (by simp [h]), if_neg (by omega), if_pos hk, if_pos hl]
theorem drop_last1 {l : Nat} {a : Pt} (hl : st.length = l + 1) (ha : st[l]? = some a) : st.drop l = [a] := by
  rw [List.drop_eq_getElem_cons (by omega), List.drop_eq_nil_of_le (by omega)]
  rw [List.getElem?_eq_getElem (by omega)] at ha
  injection ha with ha
  rw [ha]
theorem drop_last2 {l : Nat} {a b : Pt} (hl : st.length = l + 2) (ha : st[l]? = some a) (hb : st[l + 1]? = some b) : st.drop l = [a, b] := by
  rw [List.drop_eq_getElem_cons (by omega), drop_last1 (l := l + 1) hl hb]
  rw [List.getElem?_eq_getElem (by omega)] at ha
  injection ha with ha
  rw [ha]
theorem step_op1 {l : Nat} {a : Pt} (h : mayNd x = true) (hk : x.k = 4) (ho : opq x.op = 1) (hl : st.length = l + 1) (ha : st[l]? = some a) :
    stepN x st = if a.m = true then none else some (st.take l ++ [⟨insd a (lvl x.op), lvl x.op, false⟩]) := by
  unfold stepN
  rw [if_neg (by simp [h]), if_neg (by omega), if_pos hk, if_neg (by omega), ho, hl, Nat.add_sub_cancel, drop_last1 hl ha]
theorem step_op2 {l : Nat} {a b : Pt} (h : mayNd x = true) (hk : x.k = 4) (ho : opq x.op = 2) (hl : st.length = l + 2) (ha : st[l]? = some a) (hb : st[l + 1]? = some b) :
    stepN x st = if a.m = true ∨ b.m = true then none else some (st.take l ++ [⟨max (insd a (lvl x.op)) (insd b (lvl x.op + 1)), lvl x.op, false⟩]) := by
  unfold stepN
  rw [if_neg (by simp [h]), if_neg (by omega), if_pos hk, if_neg (by omega), ho, hl, Nat.add_sub_cancel, drop_last2 hl ha hb]
theorem step_opq {q m n1 : Nat} {a b : Pt} (h : mayNd x = true) (hk : x.k = 4) (ho : q = opq x.op) (hl : st.length = m + q) (hl' : st.length = n1 + 1) (ha : st[m]? = some a) (hb : st[n1]? = some b) :
    stepN x st = if a.m = true ∨ b.m = true then none else some (st.take m ++ [⟨if q = 1 then insd a (lvl x.op) else max (insd a (lvl x.op)) (insd b (lvl x.op + 1)), lvl x.op, false⟩]) := by
  have hq : q = 1 ∨ q = 2 := by
    unfold opq at ho
    split at ho <;> omega
  rcases hq with rfl | rfl
  · obtain rfl : n1 = m := by omega
    rw [ha] at hb
    injection hb with hb
    subst hb
    rw [step_op1 h hk ho.symm hl ha, if_pos rfl]
    simp
  · obtain rfl : n1 = m + 1 := by omega
    exact step_op2 h hk ho.symm hl ha hb
theorem opq_is (op : Int) : opq op = 1 ∧ (op = 1 ∨ op = 2) ∨ opq op = 2 ∧ ¬ (op = 1 ∨ op = 2) := by
  unfold opq
  split
  · exact .inl ⟨rfl, by assumption⟩
  · exact .inr ⟨rfl, by assumption⟩

/-- The document's words for a step. -/
theorem step_doc (hm : mayNd x = true) (ha : x.k = 5 → 0 ≤ x.args) : stepN x st = (if (st.length : Int) < takesI x.k x.op x.args then none else
    (partN x.k x.op (st.drop (st.length - (takesI x.k x.op x.args).toNat))).map fun p => st.take (st.length - (takesI x.k x.op x.args).toNat) ++ [p]) := by
  by_cases h3 : x.k = 3
  · rw [step_rect hm h3]
    unfold takesI partN
    rw [if_neg (by omega), if_neg (by omega), if_pos h3, if_neg (by omega)]
    simp
  by_cases h5 : x.k = 5
  · have ha := ha h5
    have ht : takesI x.k x.op x.args = x.args := by unfold takesI; rw [if_pos h5]
    rw [ht]
    by_cases hl : st.length < x.args.toNat
    · rw [step_call_no hm h5 hl, if_pos (by omega)]
    · rw [step_call hm h5 (by omega), if_neg (by omega)]
      unfold partN
      rw [if_neg h3, if_pos h5]
      rfl
  by_cases h4 : x.k = 4
  · have ht : takesI x.k x.op x.args = (opq x.op : Nat) := by
      unfold takesI opq
      rw [if_neg h5, if_pos h4]
      split <;> rfl
    rw [ht, Int.toNat_natCast]
    by_cases hl : st.length < opq x.op
    · rw [step_op_no hm h4 hl, if_pos (by omega)]
    rw [if_neg (by omega)]
    unfold partN
    rw [if_neg h3, if_neg h5, if_pos h4]
    rcases opq_is x.op with ⟨ho, _⟩ | ⟨ho, _⟩
    · obtain ⟨l, hl'⟩ : ∃ l, st.length = l + 1 := ⟨st.length - 1, by omega⟩
      obtain ⟨a, e⟩ : ∃ a, st[l]? = some a := ⟨_, List.getElem?_eq_getElem (by omega)⟩
      rw [step_op1 hm h4 ho hl' e, ho, hl', Nat.add_sub_cancel, drop_last1 hl' e]
      cases hb : a.m <;> simp [hb, opd]
    · obtain ⟨l, hl'⟩ : ∃ l, st.length = l + 2 := ⟨st.length - 2, by omega⟩
      obtain ⟨a, e⟩ : ∃ a, st[l]? = some a := ⟨_, List.getElem?_eq_getElem (by omega)⟩
      obtain ⟨b, e'⟩ : ∃ b, st[l + 1]? = some b := ⟨_, List.getElem?_eq_getElem (by omega)⟩
      rw [step_op2 hm h4 ho hl' e e', ho, hl', Nat.add_sub_cancel, drop_last2 hl' e e']
      cases hb : a.m <;> cases hb' : b.m <;> simp [hb, hb', opd]
  · rw [step_else hm h3 h4 h5]
    unfold takesI partN
    rw [if_neg h5, if_neg h4, if_neg (by omega), if_neg h3, if_neg h5, if_neg h4]
    simp
end

theorem runN_add (a b : List Nd) (st : List Pt) : runN (a ++ b) st = (runN a st).bind (runN b) := by
  induction a generalizing st with
  | nil => rfl
  | cons x a ih =>
    show (stepN x st).bind (runN (a ++ b)) = ((stepN x st).bind (runN a)).bind (runN b)
    rw [Option.bind_assoc]
    congr 1
    funext s
    exact ih s
theorem runN_one (x : Nd) (st : List Pt) : runN [x] st = stepN x st := by
  show (stepN x st).bind (runN []) = _
  cases stepN x st <;> rfl
theorem runN_take {l : List Nd} {i : Nat} {x : Nd} {st : List Pt} (hx : l[i]? = some x) (h : runN (l.take i) [] = some st) : runN (l.take (i + 1)) [] = stepN x st := by
  rw [List.take_add_one, hx, Option.toList_some, runN_add, h, Option.bind_some, runN_one]
theorem runN_none {l : List Nd} {i : Nat} (h : runN (l.take i) [] = none) : runN l [] = none := by
  rw [← List.take_append_drop i l, runN_add, h]
  rfl
end Go.Proofs.Ytifmfkofadhieaa

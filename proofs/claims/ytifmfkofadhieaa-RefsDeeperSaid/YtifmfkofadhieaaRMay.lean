/-
  Nodes: contracts of refs.may and orielref05.node. Conditions: the number is a 64-bit integer.
-/
import Derived.Test.YtifmfkofadhieaaRNode
namespace Go.Proofs.Ytifmfkofadhieaa
open Go.ChangeShapes Go.WideShapes Go.ChangeAt Go.RowKit Go.Deep

/-- May a node be? -/
noncomputable def mayN (k tag num : Int) (str : ByteArray) (is : Bool) (code row col t l b r op : Int) (name : ByteArray) (args : Int) : Bool :=
  if k = 1 then (mayV tag num str is code && !decide (tag = 0) && !decide (num < 0) && !decide (code = 1)) && eqN 1 0 0 ⟨#[]⟩ false 0 row col t l b r op name args 1 0 0 ⟨#[]⟩ false 0 0 0 0 0 0 0 0 ⟨#[]⟩ 0 else
  if k = 2 then mayB row col && eqN 2 tag num str is code 0 0 t l b r op name args 2 0 0 ⟨#[]⟩ false 0 0 0 0 0 0 0 0 ⟨#[]⟩ 0 else
  if k = 3 then mayR t l b r && eqN 3 tag num str is code row col 0 0 0 0 op name args 3 0 0 ⟨#[]⟩ false 0 0 0 0 0 0 0 0 ⟨#[]⟩ 0 else
  if k = 4 then (decide (1 ≤ op) && decide (op ≤ 13)) && eqN 4 tag num str is code row col t l b r 0 name args 4 0 0 ⟨#[]⟩ false 0 0 0 0 0 0 0 0 ⟨#[]⟩ 0 else
  if k = 5 then (namedB name && decide (0 ≤ args) && decide (args ≤ 16)) && eqN 5 tag num str is code row col t l b r op ⟨#[]⟩ 0 5 0 0 ⟨#[]⟩ false 0 0 0 0 0 0 0 0 ⟨#[]⟩ 0 else false
theorem mayN_1 (tag num : Int) (str : ByteArray) (is : Bool) (code row col t l b r op : Int) (name : ByteArray) (args : Int) : mayN 1 tag num str is code row col t l b r op name args = ((mayV tag num str is code && !decide (tag = 0) && !decide (num < 0) && !decide (code = 1)) && eqN 1 0 0 ⟨#[]⟩ false 0 row col t l b r op name args 1 0 0 ⟨#[]⟩ false 0 0 0 0 0 0 0 0 ⟨#[]⟩ 0) := by
  unfold mayN
  rw [if_pos rfl]
theorem refN_1 (tag num : Int) (str : ByteArray) (is : Bool) (code row col t l b r op : Int) (name : ByteArray) (args : Int) : eqN 1 tag num str is code row col t l b r op name args 1 tag num str is code 0 0 0 0 0 0 0 ⟨#[]⟩ 0 = eqN 1 0 0 ⟨#[]⟩ false 0 row col t l b r op name args 1 0 0 ⟨#[]⟩ false 0 0 0 0 0 0 0 0 ⟨#[]⟩ 0 := by
  simp [eqN, eqV]
theorem mayN_2 (tag num : Int) (str : ByteArray) (is : Bool) (code row col t l b r op : Int) (name : ByteArray) (args : Int) : mayN 2 tag num str is code row col t l b r op name args = (mayB row col && eqN 2 tag num str is code 0 0 t l b r op name args 2 0 0 ⟨#[]⟩ false 0 0 0 0 0 0 0 0 ⟨#[]⟩ 0) := by
  unfold mayN
  rw [if_neg (by decide)]; rw [if_pos rfl]
theorem refN_2 (tag num : Int) (str : ByteArray) (is : Bool) (code row col t l b r op : Int) (name : ByteArray) (args : Int) : eqN 2 tag num str is code row col t l b r op name args 2 0 0 ⟨#[]⟩ false 0 row col 0 0 0 0 0 ⟨#[]⟩ 0 = eqN 2 tag num str is code 0 0 t l b r op name args 2 0 0 ⟨#[]⟩ false 0 0 0 0 0 0 0 0 ⟨#[]⟩ 0 := by
  simp [eqN, eqV]
theorem mayN_3 (tag num : Int) (str : ByteArray) (is : Bool) (code row col t l b r op : Int) (name : ByteArray) (args : Int) : mayN 3 tag num str is code row col t l b r op name args = (mayR t l b r && eqN 3 tag num str is code row col 0 0 0 0 op name args 3 0 0 ⟨#[]⟩ false 0 0 0 0 0 0 0 0 ⟨#[]⟩ 0) := by
  unfold mayN
  rw [if_neg (by decide)]; rw [if_neg (by decide)]; rw [if_pos rfl]
theorem refN_3 (tag num : Int) (str : ByteArray) (is : Bool) (code row col t l b r op : Int) (name : ByteArray) (args : Int) : eqN 3 tag num str is code row col t l b r op name args 3 0 0 ⟨#[]⟩ false 0 0 0 t l b r 0 ⟨#[]⟩ 0 = eqN 3 tag num str is code row col 0 0 0 0 op name args 3 0 0 ⟨#[]⟩ false 0 0 0 0 0 0 0 0 ⟨#[]⟩ 0 := by
  simp [eqN, eqV]
theorem mayN_4 (tag num : Int) (str : ByteArray) (is : Bool) (code row col t l b r op : Int) (name : ByteArray) (args : Int) : mayN 4 tag num str is code row col t l b r op name args = ((decide (1 ≤ op) && decide (op ≤ 13)) && eqN 4 tag num str is code row col t l b r 0 name args 4 0 0 ⟨#[]⟩ false 0 0 0 0 0 0 0 0 ⟨#[]⟩ 0) := by
  unfold mayN
  rw [if_neg (by decide)]; rw [if_neg (by decide)]; rw [if_neg (by decide)]; rw [if_pos rfl]
theorem refN_4 (tag num : Int) (str : ByteArray) (is : Bool) (code row col t l b r op : Int) (name : ByteArray) (args : Int) : eqN 4 tag num str is code row col t l b r op name args 4 0 0 ⟨#[]⟩ false 0 0 0 0 0 0 0 op ⟨#[]⟩ 0 = eqN 4 tag num str is code row col t l b r 0 name args 4 0 0 ⟨#[]⟩ false 0 0 0 0 0 0 0 0 ⟨#[]⟩ 0 := by
  simp [eqN, eqV]
theorem mayN_5 (tag num : Int) (str : ByteArray) (is : Bool) (code row col t l b r op : Int) (name : ByteArray) (args : Int) : mayN 5 tag num str is code row col t l b r op name args = ((namedB name && decide (0 ≤ args) && decide (args ≤ 16)) && eqN 5 tag num str is code row col t l b r op ⟨#[]⟩ 0 5 0 0 ⟨#[]⟩ false 0 0 0 0 0 0 0 0 ⟨#[]⟩ 0) := by
  unfold mayN
  rw [if_neg (by decide)]; rw [if_neg (by decide)]; rw [if_neg (by decide)]; rw [if_neg (by decide)]; rw [if_pos rfl]
theorem refN_5 (tag num : Int) (str : ByteArray) (is : Bool) (code row col t l b r op : Int) (name : ByteArray) (args : Int) : eqN 5 tag num str is code row col t l b r op name args 5 0 0 ⟨#[]⟩ false 0 0 0 0 0 0 0 0 name args = eqN 5 tag num str is code row col t l b r op ⟨#[]⟩ 0 5 0 0 ⟨#[]⟩ false 0 0 0 0 0 0 0 0 ⟨#[]⟩ 0 := by
  simp [eqN, eqV]
theorem mayN_no (k tag num : Int) (str : ByteArray) (is : Bool) (code row col t l b r op : Int) (name : ByteArray) (args : Int) (h : ¬ (k = 1 ∨ k = 2 ∨ k = 3 ∨ k = 4 ∨ k = 5)) : mayN k tag num str is code row col t l b r op name args = false := by
  unfold mayN
  rw [if_neg (by omega), if_neg (by omega), if_neg (by omega), if_neg (by omega), if_neg (by omega)]

set_option maxHeartbeats 6400000 in
set_option maxRecDepth 100000 in
theorem pmay_any (k tag num : Int) (str : ByteArray) (is : Bool) (code row col t l b r op : Int) (name : ByteArray) (args : Int) (w : World) (hnum : -9223372036854775808 ≤ num) :
    Calls Try.prog 25 #[.agg #[.int .i64 k, .int .i64 tag, .int .i64 num, .string str, .bool is, .int .i64 code, .int .i64 row, .int .i64 col, .int .i64 t, .int .i64 l, .int .i64 b, .int .i64 r, .int .i64 op, .string name, .int .i64 args]] w fun e w' => e = .returned (.bool (mayN k tag num str is code row col t l b r op name args)) ∧ Below w.heap.size w w' := by
  obtain ⟨R, hR⟩ : ∃ R, R = mayN k tag num str is code row col t l b r op name args := ⟨_, rfl⟩
  rw [← hR]
  have HR := Lib.hid hR
  clear hR
  by_cases hk : ¬ (k = 1 ∨ k = 2 ∨ k = 3 ∨ k = 4 ∨ k = 5)
  · have HF : Hid (R = false) := by
      rw [HR.out]
      exact mayN_no _ _ _ _ _ _ _ _ _ _ _ _ _ _ _ hk
    have b1 : (k == 1) = false := by rw [beq_eq_false_iff_ne]; omega
    have b2 : (k == 2) = false := by rw [beq_eq_false_iff_ne]; omega
    have b3 : (k == 3) = false := by rw [beq_eq_false_iff_ne]; omega
    have b4 : (k == 4) = false := by rw [beq_eq_false_iff_ne]; omega
    have b5 : (k == 5) = false := by rw [beq_eq_false_iff_ne]; omega
    clear hk hnum
    go_enter Try.func25, Try.ntmps25
    go_wp2_with fail
    go_ret
    exact ⟨ret_bool HF.out.symm, bel_alloc (bel_refl w) _⟩
  rcases (show k = 1 ∨ k = 2 ∨ k = 3 ∨ k = 4 ∨ k = 5 by omega) with rfl | rfl | rfl | rfl | rfl
  · clear hk
    obtain ⟨q, hq⟩ : ∃ q, eqN 1 0 0 ⟨#[]⟩ false 0 row col t l b r op name args 1 0 0 ⟨#[]⟩ false 0 0 0 0 0 0 0 0 ⟨#[]⟩ 0 = q := ⟨_, rfl⟩
    have heq : ∀ W : World, (binOp .eql 48 (.agg #[.int .i64 1, .int .i64 0, .int .i64 0, .string ⟨#[]⟩, .bool false, .int .i64 0, .int .i64 row, .int .i64 col, .int .i64 t, .int .i64 l, .int .i64 b, .int .i64 r, .int .i64 op, .string name, .int .i64 args]) (.agg #[.int .i64 1, .int .i64 0, .int .i64 0, .string ⟨#[]⟩, .bool false, .int .i64 0, .int .i64 0, .int .i64 0, .int .i64 0, .int .i64 0, .int .i64 0, .int .i64 0, .int .i64 0, .string ⟨#[]⟩, .int .i64 0])).run Try.prog W = .ok (.bool q) W := fun W => by
      rw [← hq]
      exact eql_node W _ _ _ _ _ _ _ _ _ _ _ _ _ _ _ _ _ _ _ _ _ _ _ _ _ _ _ _ _ _
    have HQ := Lib.hid hq
    clear hq
    obtain ⟨m, hm⟩ : ∃ m, mayV tag num str is code = m := ⟨_, rfl⟩
    have HM := Lib.hid hm
    have HRR : Hid (R = (m && !decide (tag = 0) && !decide (num < 0) && !decide (code = 1) && q)) := by
      rw [HR.out, mayN_1, HM.out, HQ.out]
      exact rfl
    clear hm
    go_enter Try.func25, Try.ntmps25
    go_wp2_with fail
    refine (val_any tag num str is code _ hnum).mono ?_
    rintro e w1 ⟨rfl, hb1⟩
    rw [HM.out]
    have k1 := ((Blk.new w rfl 48 #[.int .i64 1, .int .i64 tag, .int .i64 num, .string str, .bool is, .int .i64 code, .int .i64 row, .int .i64 col, .int .i64 t, .int .i64 l, .int .i64 b, .int .i64 r, .int .i64 op, .string name, .int .i64 args]).alloc (.cells #[.int .i64 tag, .int .i64 num, .string str, .bool is, .int .i64 code] 44)).below hb1
    have k3 := (Blk.new (w.alloc (.cells #[.int .i64 1, .int .i64 tag, .int .i64 num, .string str, .bool is, .int .i64 code, .int .i64 row, .int .i64 col, .int .i64 t, .int .i64 l, .int .i64 b, .int .i64 r, .int .i64 op, .string name, .int .i64 args] 48)) (g := w.heap.size + 1) (by simp) 44 #[.int .i64 tag, .int .i64 num, .string str, .bool is, .int .i64 code]).below hb1
    have rd1 := k1.rd
    have fz1 := k1.fz
    have lt1 := k1.lt
    have rd3 := k3.rd
    have hw := bel_call (bel_alloc (bel_alloc (bel_refl w) _) _) hb1
    have hlo : w.heap.size ≤ w.heap.size := Nat.le_refl _
    clear hb1 hnum k1 k3
    cases m with
    | false =>
      go_wp2_with fail
      go_ret
      exact ⟨ret_bool (by rw [HRR.out]; simp), hw⟩
    | true =>
      by_cases h0 : tag = 0
      · subst h0
        go_wp2_with fail
        go_ret
        exact ⟨ret_bool (by rw [HRR.out]; simp), hw⟩
      · have b0 : (tag == 0) = false := by rw [beq_eq_false_iff_ne]; exact h0
        by_cases h1 : num < 0
        · have d1 : decide (num < 0) = true := by simpa using h1
          have HRF : Hid (R = false) := by rw [HRR.out]; show (_ = _); simp [h1]
          clear h0 h1
          go_wp2_with fail
          go_ret
          exact ⟨ret_bool HRF.out.symm, hw⟩
        · have d1 : decide (num < 0) = false := by simpa using h1
          by_cases h2 : code = 1
          · subst h2
            have HRF : Hid (R = false) := by rw [HRR.out]; show (_ = _); simp
            clear h0 h1
            go_wp2_with fail
            go_ret
            exact ⟨ret_bool HRF.out.symm, hw⟩
          · have b2 : (code == 1) = false := by rw [beq_eq_false_iff_ne]; exact h2
            have HRF : Hid (R = q) := by rw [HRR.out]; show (_ = _); simp [h0, h1, h2]
            clear h0 h1 h2
            go_wp2_with fail
            go_ret
            exact ⟨ret_bool HRF.out.symm, bel_set (bel_set (bel_set (bel_set (bel_set hw hlo _) hlo _) hlo _) hlo _) hlo _⟩
  · clear hk hnum
    obtain ⟨q, hq⟩ : ∃ q, eqN 2 tag num str is code 0 0 t l b r op name args 2 0 0 ⟨#[]⟩ false 0 0 0 0 0 0 0 0 ⟨#[]⟩ 0 = q := ⟨_, rfl⟩
    have heq : ∀ W : World, (binOp .eql 48 (.agg #[.int .i64 2, .int .i64 tag, .int .i64 num, .string str, .bool is, .int .i64 code, .int .i64 0, .int .i64 0, .int .i64 t, .int .i64 l, .int .i64 b, .int .i64 r, .int .i64 op, .string name, .int .i64 args]) (.agg #[.int .i64 2, .int .i64 0, .int .i64 0, .string ⟨#[]⟩, .bool false, .int .i64 0, .int .i64 0, .int .i64 0, .int .i64 0, .int .i64 0, .int .i64 0, .int .i64 0, .int .i64 0, .string ⟨#[]⟩, .int .i64 0])).run Try.prog W = .ok (.bool q) W := fun W => by
      rw [← hq]
      exact eql_node W _ _ _ _ _ _ _ _ _ _ _ _ _ _ _ _ _ _ _ _ _ _ _ _ _ _ _ _ _ _
    have HQ := Lib.hid hq
    clear hq
    obtain ⟨m, hm⟩ : ∃ m, mayB row col = m := ⟨_, rfl⟩
    have HM := Lib.hid hm
    have HRR : Hid (R = (m && q)) := by
      rw [HR.out, mayN_2, HM.out, HQ.out]
      exact rfl
    clear hm
    go_enter Try.func25, Try.ntmps25
    go_wp2_with fail
    refine (may_any row col _).mono ?_
    rintro e w1 ⟨rfl, hb1⟩
    rw [HM.out]
    have k1 := (Blk.new w rfl 48 #[.int .i64 2, .int .i64 tag, .int .i64 num, .string str, .bool is, .int .i64 code, .int .i64 row, .int .i64 col, .int .i64 t, .int .i64 l, .int .i64 b, .int .i64 r, .int .i64 op, .string name, .int .i64 args]).below hb1
    have rd1 := k1.rd
    have fz1 := k1.fz
    have lt1 := k1.lt
    have hw := bel_call (bel_alloc (bel_refl w) _) hb1
    have hlo : w.heap.size ≤ w.heap.size := Nat.le_refl _
    clear hb1 k1
    cases m with
    | false =>
      go_wp2_with fail
      go_ret
      exact ⟨ret_bool (by rw [HRR.out]; simp), hw⟩
    | true =>
      go_wp2_with fail
      go_ret
      exact ⟨ret_bool (by rw [HRR.out]; simp), bel_set (bel_set hw hlo _) hlo _⟩
  · clear hk hnum
    obtain ⟨q, hq⟩ : ∃ q, eqN 3 tag num str is code row col 0 0 0 0 op name args 3 0 0 ⟨#[]⟩ false 0 0 0 0 0 0 0 0 ⟨#[]⟩ 0 = q := ⟨_, rfl⟩
    have heq : ∀ W : World, (binOp .eql 48 (.agg #[.int .i64 3, .int .i64 tag, .int .i64 num, .string str, .bool is, .int .i64 code, .int .i64 row, .int .i64 col, .int .i64 0, .int .i64 0, .int .i64 0, .int .i64 0, .int .i64 op, .string name, .int .i64 args]) (.agg #[.int .i64 3, .int .i64 0, .int .i64 0, .string ⟨#[]⟩, .bool false, .int .i64 0, .int .i64 0, .int .i64 0, .int .i64 0, .int .i64 0, .int .i64 0, .int .i64 0, .int .i64 0, .string ⟨#[]⟩, .int .i64 0])).run Try.prog W = .ok (.bool q) W := fun W => by
      rw [← hq]
      exact eql_node W _ _ _ _ _ _ _ _ _ _ _ _ _ _ _ _ _ _ _ _ _ _ _ _ _ _ _ _ _ _
    have HQ := Lib.hid hq
    clear hq
    obtain ⟨m, hm⟩ : ∃ m, mayR t l b r = m := ⟨_, rfl⟩
    have HM := Lib.hid hm
    have HRR : Hid (R = (m && q)) := by
      rw [HR.out, mayN_3, HM.out, HQ.out]
      exact rfl
    clear hm
    go_enter Try.func25, Try.ntmps25
    go_wp2_with fail
    refine (mayrect_any t l b r _).mono ?_
    rintro e w1 ⟨rfl, hb1⟩
    rw [HM.out]
    have k1 := (Blk.new w rfl 48 #[.int .i64 3, .int .i64 tag, .int .i64 num, .string str, .bool is, .int .i64 code, .int .i64 row, .int .i64 col, .int .i64 t, .int .i64 l, .int .i64 b, .int .i64 r, .int .i64 op, .string name, .int .i64 args]).below hb1
    have rd1 := k1.rd
    have fz1 := k1.fz
    have lt1 := k1.lt
    have hw := bel_call (bel_alloc (bel_refl w) _) hb1
    have hlo : w.heap.size ≤ w.heap.size := Nat.le_refl _
    clear hb1 k1
    cases m with
    | false =>
      go_wp2_with fail
      go_ret
      exact ⟨ret_bool (by rw [HRR.out]; simp), hw⟩
    | true =>
      go_wp2_with fail
      go_ret
      exact ⟨ret_bool (by rw [HRR.out]; simp), bel_set (bel_set (bel_set (bel_set hw hlo _) hlo _) hlo _) hlo _⟩
  · clear hk hnum
    obtain ⟨q, hq⟩ : ∃ q, eqN 4 tag num str is code row col t l b r 0 name args 4 0 0 ⟨#[]⟩ false 0 0 0 0 0 0 0 0 ⟨#[]⟩ 0 = q := ⟨_, rfl⟩
    have heq : ∀ W : World, (binOp .eql 48 (.agg #[.int .i64 4, .int .i64 tag, .int .i64 num, .string str, .bool is, .int .i64 code, .int .i64 row, .int .i64 col, .int .i64 t, .int .i64 l, .int .i64 b, .int .i64 r, .int .i64 0, .string name, .int .i64 args]) (.agg #[.int .i64 4, .int .i64 0, .int .i64 0, .string ⟨#[]⟩, .bool false, .int .i64 0, .int .i64 0, .int .i64 0, .int .i64 0, .int .i64 0, .int .i64 0, .int .i64 0, .int .i64 0, .string ⟨#[]⟩, .int .i64 0])).run Try.prog W = .ok (.bool q) W := fun W => by
      rw [← hq]
      exact eql_node W _ _ _ _ _ _ _ _ _ _ _ _ _ _ _ _ _ _ _ _ _ _ _ _ _ _ _ _ _ _
    have HQ := Lib.hid hq
    clear hq
    have HRR : Hid (R = ((decide (1 ≤ op) && decide (op ≤ 13)) && q)) := by
      rw [HR.out, mayN_4, HQ.out]
      exact rfl
    by_cases h1 : op < 1
    · have d1 : decide (op < 1) = true := by simpa using h1
      have HRF : Hid (R = false) := by rw [HRR.out]; show (_ = _); simp; omega
      clear h1
      go_enter Try.func25, Try.ntmps25
      go_wp2_with fail
      go_ret
      exact ⟨ret_bool HRF.out.symm, bel_alloc (bel_refl w) _⟩
    have d1 : decide (op < 1) = false := by simpa using h1
    by_cases h2 : 13 < op
    · have d2 : decide (13 < op) = true := by simpa using h2
      have HRF : Hid (R = false) := by rw [HRR.out]; show (_ = _); simp; omega
      clear h1 h2
      go_enter Try.func25, Try.ntmps25
      go_wp2_with fail
      go_ret
      exact ⟨ret_bool HRF.out.symm, bel_alloc (bel_refl w) _⟩
    · have d2 : decide (13 < op) = false := by simpa using h2
      have HRF : Hid (R = q) := by
        rw [HRR.out]
        have e1 : decide (1 ≤ op) = true := by simp; omega
        have e2 : decide (op ≤ 13) = true := by simp; omega
        rw [e1, e2]
        exact Bool.true_and q
      clear h1 h2
      go_enter Try.func25, Try.ntmps25
      go_wp2_with fail
      go_ret
      exact ⟨ret_bool HRF.out.symm, bel_alloc (bel_refl w) _⟩
  · clear hk hnum
    obtain ⟨q, hq⟩ : ∃ q, eqN 5 tag num str is code row col t l b r op ⟨#[]⟩ 0 5 0 0 ⟨#[]⟩ false 0 0 0 0 0 0 0 0 ⟨#[]⟩ 0 = q := ⟨_, rfl⟩
    have heq : ∀ W : World, (binOp .eql 48 (.agg #[.int .i64 5, .int .i64 tag, .int .i64 num, .string str, .bool is, .int .i64 code, .int .i64 row, .int .i64 col, .int .i64 t, .int .i64 l, .int .i64 b, .int .i64 r, .int .i64 op, .string ⟨#[]⟩, .int .i64 0]) (.agg #[.int .i64 5, .int .i64 0, .int .i64 0, .string ⟨#[]⟩, .bool false, .int .i64 0, .int .i64 0, .int .i64 0, .int .i64 0, .int .i64 0, .int .i64 0, .int .i64 0, .int .i64 0, .string ⟨#[]⟩, .int .i64 0])).run Try.prog W = .ok (.bool q) W := fun W => by
      rw [← hq]
      exact eql_node W _ _ _ _ _ _ _ _ _ _ _ _ _ _ _ _ _ _ _ _ _ _ _ _ _ _ _ _ _ _
    have HQ := Lib.hid hq
    clear hq
    obtain ⟨m, hm⟩ : ∃ m, namedB name = m := ⟨_, rfl⟩
    have HM := Lib.hid hm
    have HRR : Hid (R = ((m && decide (0 ≤ args) && decide (args ≤ 16)) && q)) := by
      rw [HR.out, mayN_5, HM.out, HQ.out]
      exact rfl
    clear hm
    go_enter Try.func25, Try.ntmps25
    go_wp2_with fail
    refine (named_any name _).mono ?_
    rintro e w1 ⟨rfl, rfl⟩
    rw [HM.out]
    cases m with
    | false =>
      go_wp2_with fail
      go_ret
      exact ⟨ret_bool (by rw [HRR.out]; simp), bel_alloc (bel_refl w) _⟩
    | true =>
      by_cases h1 : args < 0
      · have d1 : decide (args < 0) = true := by simpa using h1
        have HRF : Hid (R = false) := by rw [HRR.out]; show (_ = _); simp; omega
        clear h1
        go_wp2_with fail
        go_ret
        exact ⟨ret_bool HRF.out.symm, bel_alloc (bel_refl w) _⟩
      have d1 : decide (args < 0) = false := by simpa using h1
      by_cases h2 : 16 < args
      · have d2 : decide (16 < args) = true := by simpa using h2
        have HRF : Hid (R = false) := by rw [HRR.out]; show (_ = _); simp; omega
        clear h1 h2
        go_wp2_with fail
        go_ret
        exact ⟨ret_bool HRF.out.symm, bel_alloc (bel_refl w) _⟩
      · have d2 : decide (16 < args) = false := by simpa using h2
        have HRF : Hid (R = q) := by
          rw [HRR.out]
          have e1 : decide (0 ≤ args) = true := by simp; omega
          have e2 : decide (args ≤ 16) = true := by simp; omega
          rw [e1, e2]
          exact Bool.true_and q
        clear h1 h2
        go_wp2_with fail
        go_ret
        exact ⟨ret_bool HRF.out.symm, bel_alloc (bel_refl w) _⟩
end Go.Proofs.Ytifmfkofadhieaa

/-
  Nodes: contract of orielref05.node. Conditions: none.
-/
import Derived.Test.YtifmfkofadhieaaRMay
namespace Go.Proofs.Ytifmfkofadhieaa
open Go.ChangeShapes Go.WideShapes Go.ChangeAt Go.RowKit Go.Deep

set_option maxHeartbeats 6400000 in
set_option maxRecDepth 100000 in
theorem rnode_1 (tag num : Int) (str : ByteArray) (is : Bool) (code row col t l b r op : Int) (name : ByteArray) (args : Int) (w : World) :
    Calls Try.prog 28 #[.agg #[.int .i64 1, .int .i64 tag, .int .i64 num, .string str, .bool is, .int .i64 code, .int .i64 row, .int .i64 col, .int .i64 t, .int .i64 l, .int .i64 b, .int .i64 r, .int .i64 op, .string name, .int .i64 args]] w fun e w' => e = .returned (.bool (mayN 1 tag num str is code row col t l b r op name args)) ∧ Below w.heap.size w w' := by
  obtain ⟨R, hR⟩ : ∃ R, R = mayN 1 tag num str is code row col t l b r op name args := ⟨_, rfl⟩
  rw [← hR]
  have HR := Lib.hid hR
  clear hR
  obtain ⟨q, hq⟩ : ∃ q, eqN 1 tag num str is code row col t l b r op name args 1 tag num str is code 0 0 0 0 0 0 0 ⟨#[]⟩ 0 = q := ⟨_, rfl⟩
  have heq : ∀ W : World, (binOp .eql 48 (.agg #[.int .i64 1, .int .i64 tag, .int .i64 num, .string str, .bool is, .int .i64 code, .int .i64 row, .int .i64 col, .int .i64 t, .int .i64 l, .int .i64 b, .int .i64 r, .int .i64 op, .string name, .int .i64 args]) (.agg #[.int .i64 1, .int .i64 tag, .int .i64 num, .string str, .bool is, .int .i64 code, .int .i64 0, .int .i64 0, .int .i64 0, .int .i64 0, .int .i64 0, .int .i64 0, .int .i64 0, .string ⟨#[]⟩, .int .i64 0])).run Try.prog W = .ok (.bool q) W := fun W => by
    rw [← hq]
    exact eql_node W _ _ _ _ _ _ _ _ _ _ _ _ _ _ _ _ _ _ _ _ _ _ _ _ _ _ _ _ _ _
  have HQ : Hid (eqN 1 0 0 ⟨#[]⟩ false 0 row col t l b r op name args 1 0 0 ⟨#[]⟩ false 0 0 0 0 0 0 0 0 ⟨#[]⟩ 0 = q) := by
    show (_ = _)
    rw [← refN_1]
    exact hq
  clear hq
  obtain ⟨m, hm⟩ : ∃ m, mayV tag num str is code = m := ⟨_, rfl⟩
  have HM := Lib.hid hm
  have HRR : Hid (R = (m && !decide (tag = 0) && !decide (num < 0) && !decide (code = 1) && q)) := by
    rw [HR.out, mayN_1, HM.out, HQ.out]
    exact rfl
  clear hm
  go_enter Try.func28, Try.ntmps28
  go_wp2_with fail
  refine (rval_any tag num str is code _).mono ?_
  rintro e w1 ⟨rfl, hb1⟩
  rw [HM.out]
  have k1 := ((Blk.new w rfl 48 #[.int .i64 1, .int .i64 tag, .int .i64 num, .string str, .bool is, .int .i64 code, .int .i64 row, .int .i64 col, .int .i64 t, .int .i64 l, .int .i64 b, .int .i64 r, .int .i64 op, .string name, .int .i64 args]).alloc (.cells #[.int .i64 1, .int .i64 tag, .int .i64 num, .string str, .bool is, .int .i64 code, .int .i64 0, .int .i64 0, .int .i64 0, .int .i64 0, .int .i64 0, .int .i64 0, .int .i64 0, .string ⟨#[]⟩, .int .i64 0] 48)).below hb1
  have k3 := (Blk.new (w.alloc (.cells #[.int .i64 1, .int .i64 tag, .int .i64 num, .string str, .bool is, .int .i64 code, .int .i64 row, .int .i64 col, .int .i64 t, .int .i64 l, .int .i64 b, .int .i64 r, .int .i64 op, .string name, .int .i64 args] 48)) (g := w.heap.size + 1) (by simp) 48 #[.int .i64 1, .int .i64 tag, .int .i64 num, .string str, .bool is, .int .i64 code, .int .i64 0, .int .i64 0, .int .i64 0, .int .i64 0, .int .i64 0, .int .i64 0, .int .i64 0, .string ⟨#[]⟩, .int .i64 0]).below hb1
  have rd1 := k1.rd
  have rd3 := k3.rd
  have hw := bel_call (bel_alloc (bel_alloc (bel_refl w) _) _) hb1
  clear hb1 k1 k3
  cases m with
  | false =>
    go_wp2_with fail
    go_ret
    exact ⟨ret_bool (by rw [HRR.out]; simp), hw⟩
  | true =>
    by_cases h0 : tag = 0
    · subst h0
      go_wp2_with fail
      go_ret
      exact ⟨ret_bool (by rw [HRR.out]; simp), hw⟩
    · have b0 : (tag != 0) = true := by rw [bne_iff_ne]; exact h0
      by_cases h1 : num < 0
      · have d1 : decide (0 ≤ num) = false := by simp; omega
        have HRF : Hid (R = false) := by rw [HRR.out]; show (_ = _); simp [h1]
        clear h0 h1
        go_wp2_with fail
        go_ret
        exact ⟨ret_bool HRF.out.symm, hw⟩
      · have d1 : decide (0 ≤ num) = true := by simp; omega
        by_cases h2 : code = 1
        · subst h2
          have HRF : Hid (R = false) := by rw [HRR.out]; show (_ = _); simp
          clear h0 h1
          go_wp2_with fail
          go_ret
          exact ⟨ret_bool HRF.out.symm, hw⟩
        · have b2 : (code != 1) = true := by rw [bne_iff_ne]; exact h2
          have HRF : Hid (R = q) := by rw [HRR.out]; show (_ = _); simp [h0, h1, h2]
          clear h0 h1 h2
          go_wp2_with fail
          go_ret
          exact ⟨ret_bool HRF.out.symm, hw⟩
set_option maxHeartbeats 6400000 in
set_option maxRecDepth 100000 in
theorem rnode_2 (tag num : Int) (str : ByteArray) (is : Bool) (code row col t l b r op : Int) (name : ByteArray) (args : Int) (w : World) :
    Calls Try.prog 28 #[.agg #[.int .i64 2, .int .i64 tag, .int .i64 num, .string str, .bool is, .int .i64 code, .int .i64 row, .int .i64 col, .int .i64 t, .int .i64 l, .int .i64 b, .int .i64 r, .int .i64 op, .string name, .int .i64 args]] w fun e w' => e = .returned (.bool (mayN 2 tag num str is code row col t l b r op name args)) ∧ Below w.heap.size w w' := by
  obtain ⟨R, hR⟩ : ∃ R, R = mayN 2 tag num str is code row col t l b r op name args := ⟨_, rfl⟩
  rw [← hR]
  have HR := Lib.hid hR
  clear hR
  obtain ⟨q, hq⟩ : ∃ q, eqN 2 tag num str is code row col t l b r op name args 2 0 0 ⟨#[]⟩ false 0 row col 0 0 0 0 0 ⟨#[]⟩ 0 = q := ⟨_, rfl⟩
  have heq : ∀ W : World, (binOp .eql 48 (.agg #[.int .i64 2, .int .i64 tag, .int .i64 num, .string str, .bool is, .int .i64 code, .int .i64 row, .int .i64 col, .int .i64 t, .int .i64 l, .int .i64 b, .int .i64 r, .int .i64 op, .string name, .int .i64 args]) (.agg #[.int .i64 2, .int .i64 0, .int .i64 0, .string ⟨#[]⟩, .bool false, .int .i64 0, .int .i64 row, .int .i64 col, .int .i64 0, .int .i64 0, .int .i64 0, .int .i64 0, .int .i64 0, .string ⟨#[]⟩, .int .i64 0])).run Try.prog W = .ok (.bool q) W := fun W => by
    rw [← hq]
    exact eql_node W _ _ _ _ _ _ _ _ _ _ _ _ _ _ _ _ _ _ _ _ _ _ _ _ _ _ _ _ _ _
  have HQ : Hid (eqN 2 tag num str is code 0 0 t l b r op name args 2 0 0 ⟨#[]⟩ false 0 0 0 0 0 0 0 0 ⟨#[]⟩ 0 = q) := by
    show (_ = _)
    rw [← refN_2]
    exact hq
  clear hq
  obtain ⟨m, hm⟩ : ∃ m, mayB row col = m := ⟨_, rfl⟩
  have HM := Lib.hid hm
  have HRR : Hid (R = (m && q)) := by
    rw [HR.out, mayN_2, HM.out, HQ.out]
    exact rfl
  clear hm
  go_enter Try.func28, Try.ntmps28
  go_wp2_with fail
  refine (rmay_any row col _).mono ?_
  rintro e w1 ⟨rfl, hb1⟩
  rw [HM.out]
  have k1 := ((Blk.new w rfl 48 #[.int .i64 2, .int .i64 tag, .int .i64 num, .string str, .bool is, .int .i64 code, .int .i64 row, .int .i64 col, .int .i64 t, .int .i64 l, .int .i64 b, .int .i64 r, .int .i64 op, .string name, .int .i64 args]).alloc (.cells #[.int .i64 2, .int .i64 0, .int .i64 0, .string ⟨#[]⟩, .bool false, .int .i64 0, .int .i64 row, .int .i64 col, .int .i64 0, .int .i64 0, .int .i64 0, .int .i64 0, .int .i64 0, .string ⟨#[]⟩, .int .i64 0] 48)).below hb1
  have k3 := (Blk.new (w.alloc (.cells #[.int .i64 2, .int .i64 tag, .int .i64 num, .string str, .bool is, .int .i64 code, .int .i64 row, .int .i64 col, .int .i64 t, .int .i64 l, .int .i64 b, .int .i64 r, .int .i64 op, .string name, .int .i64 args] 48)) (g := w.heap.size + 1) (by simp) 48 #[.int .i64 2, .int .i64 0, .int .i64 0, .string ⟨#[]⟩, .bool false, .int .i64 0, .int .i64 row, .int .i64 col, .int .i64 0, .int .i64 0, .int .i64 0, .int .i64 0, .int .i64 0, .string ⟨#[]⟩, .int .i64 0]).below hb1
  have rd1 := k1.rd
  have rd3 := k3.rd
  have hw := bel_call (bel_alloc (bel_alloc (bel_refl w) _) _) hb1
  clear hb1 k1 k3
  cases m with
  | false =>
    go_wp2_with fail
    go_ret
    exact ⟨ret_bool (by rw [HRR.out]; simp), hw⟩
  | true =>
    go_wp2_with fail
    go_ret
    exact ⟨ret_bool (by rw [HRR.out]; simp), hw⟩
set_option maxHeartbeats 6400000 in
set_option maxRecDepth 100000 in
theorem rnode_3 (tag num : Int) (str : ByteArray) (is : Bool) (code row col t l b r op : Int) (name : ByteArray) (args : Int) (w : World) :
    Calls Try.prog 28 #[.agg #[.int .i64 3, .int .i64 tag, .int .i64 num, .string str, .bool is, .int .i64 code, .int .i64 row, .int .i64 col, .int .i64 t, .int .i64 l, .int .i64 b, .int .i64 r, .int .i64 op, .string name, .int .i64 args]] w fun e w' => e = .returned (.bool (mayN 3 tag num str is code row col t l b r op name args)) ∧ Below w.heap.size w w' := by
  obtain ⟨R, hR⟩ : ∃ R, R = mayN 3 tag num str is code row col t l b r op name args := ⟨_, rfl⟩
  rw [← hR]
  have HR := Lib.hid hR
  clear hR
  obtain ⟨q, hq⟩ : ∃ q, eqN 3 tag num str is code row col t l b r op name args 3 0 0 ⟨#[]⟩ false 0 0 0 t l b r 0 ⟨#[]⟩ 0 = q := ⟨_, rfl⟩
  have heq : ∀ W : World, (binOp .eql 48 (.agg #[.int .i64 3, .int .i64 tag, .int .i64 num, .string str, .bool is, .int .i64 code, .int .i64 row, .int .i64 col, .int .i64 t, .int .i64 l, .int .i64 b, .int .i64 r, .int .i64 op, .string name, .int .i64 args]) (.agg #[.int .i64 3, .int .i64 0, .int .i64 0, .string ⟨#[]⟩, .bool false, .int .i64 0, .int .i64 0, .int .i64 0, .int .i64 t, .int .i64 l, .int .i64 b, .int .i64 r, .int .i64 0, .string ⟨#[]⟩, .int .i64 0])).run Try.prog W = .ok (.bool q) W := fun W => by
    rw [← hq]
    exact eql_node W _ _ _ _ _ _ _ _ _ _ _ _ _ _ _ _ _ _ _ _ _ _ _ _ _ _ _ _ _ _
  have HQ : Hid (eqN 3 tag num str is code row col 0 0 0 0 op name args 3 0 0 ⟨#[]⟩ false 0 0 0 0 0 0 0 0 ⟨#[]⟩ 0 = q) := by
    show (_ = _)
    rw [← refN_3]
    exact hq
  clear hq
  obtain ⟨m, hm⟩ : ∃ m, mayR t l b r = m := ⟨_, rfl⟩
  have HM := Lib.hid hm
  have HRR : Hid (R = (m && q)) := by
    rw [HR.out, mayN_3, HM.out, HQ.out]
    exact rfl
  clear hm
  go_enter Try.func28, Try.ntmps28
  go_wp2_with fail
  refine (rmayrect_any t l b r _).mono ?_
  rintro e w1 ⟨rfl, hb1⟩
  rw [HM.out]
  have k1 := ((Blk.new w rfl 48 #[.int .i64 3, .int .i64 tag, .int .i64 num, .string str, .bool is, .int .i64 code, .int .i64 row, .int .i64 col, .int .i64 t, .int .i64 l, .int .i64 b, .int .i64 r, .int .i64 op, .string name, .int .i64 args]).alloc (.cells #[.int .i64 3, .int .i64 0, .int .i64 0, .string ⟨#[]⟩, .bool false, .int .i64 0, .int .i64 0, .int .i64 0, .int .i64 t, .int .i64 l, .int .i64 b, .int .i64 r, .int .i64 0, .string ⟨#[]⟩, .int .i64 0] 48)).below hb1
  have k3 := (Blk.new (w.alloc (.cells #[.int .i64 3, .int .i64 tag, .int .i64 num, .string str, .bool is, .int .i64 code, .int .i64 row, .int .i64 col, .int .i64 t, .int .i64 l, .int .i64 b, .int .i64 r, .int .i64 op, .string name, .int .i64 args] 48)) (g := w.heap.size + 1) (by simp) 48 #[.int .i64 3, .int .i64 0, .int .i64 0, .string ⟨#[]⟩, .bool false, .int .i64 0, .int .i64 0, .int .i64 0, .int .i64 t, .int .i64 l, .int .i64 b, .int .i64 r, .int .i64 0, .string ⟨#[]⟩, .int .i64 0]).below hb1
  have rd1 := k1.rd
  have rd3 := k3.rd
  have hw := bel_call (bel_alloc (bel_alloc (bel_refl w) _) _) hb1
  clear hb1 k1 k3
  cases m with
  | false =>
    go_wp2_with fail
    go_ret
    exact ⟨ret_bool (by rw [HRR.out]; simp), hw⟩
  | true =>
    go_wp2_with fail
    go_ret
    exact ⟨ret_bool (by rw [HRR.out]; simp), hw⟩
set_option maxHeartbeats 6400000 in
set_option maxRecDepth 100000 in
theorem rnode_4 (tag num : Int) (str : ByteArray) (is : Bool) (code row col t l b r op : Int) (name : ByteArray) (args : Int) (w : World) :
    Calls Try.prog 28 #[.agg #[.int .i64 4, .int .i64 tag, .int .i64 num, .string str, .bool is, .int .i64 code, .int .i64 row, .int .i64 col, .int .i64 t, .int .i64 l, .int .i64 b, .int .i64 r, .int .i64 op, .string name, .int .i64 args]] w fun e w' => e = .returned (.bool (mayN 4 tag num str is code row col t l b r op name args)) ∧ Below w.heap.size w w' := by
  obtain ⟨R, hR⟩ : ∃ R, R = mayN 4 tag num str is code row col t l b r op name args := ⟨_, rfl⟩
  rw [← hR]
  have HR := Lib.hid hR
  clear hR
  obtain ⟨q, hq⟩ : ∃ q, eqN 4 tag num str is code row col t l b r op name args 4 0 0 ⟨#[]⟩ false 0 0 0 0 0 0 0 op ⟨#[]⟩ 0 = q := ⟨_, rfl⟩
  have heq : ∀ W : World, (binOp .eql 48 (.agg #[.int .i64 4, .int .i64 tag, .int .i64 num, .string str, .bool is, .int .i64 code, .int .i64 row, .int .i64 col, .int .i64 t, .int .i64 l, .int .i64 b, .int .i64 r, .int .i64 op, .string name, .int .i64 args]) (.agg #[.int .i64 4, .int .i64 0, .int .i64 0, .string ⟨#[]⟩, .bool false, .int .i64 0, .int .i64 0, .int .i64 0, .int .i64 0, .int .i64 0, .int .i64 0, .int .i64 0, .int .i64 op, .string ⟨#[]⟩, .int .i64 0])).run Try.prog W = .ok (.bool q) W := fun W => by
    rw [← hq]
    exact eql_node W _ _ _ _ _ _ _ _ _ _ _ _ _ _ _ _ _ _ _ _ _ _ _ _ _ _ _ _ _ _
  have HQ : Hid (eqN 4 tag num str is code row col t l b r 0 name args 4 0 0 ⟨#[]⟩ false 0 0 0 0 0 0 0 0 ⟨#[]⟩ 0 = q) := by
    show (_ = _)
    rw [← refN_4]
    exact hq
  clear hq
  have HRR : Hid (R = ((decide (1 ≤ op) && decide (op ≤ 13)) && q)) := by
    rw [HR.out, mayN_4, HQ.out]
    exact rfl
  by_cases h1 : op < 1
  · have d1 : decide (1 ≤ op) = false := by simp; omega
    have HRF : Hid (R = false) := by rw [HRR.out]; show (_ = _); simp; omega
    clear h1
    go_enter Try.func28, Try.ntmps28
    go_wp2_with fail
    go_ret
    exact ⟨ret_bool HRF.out.symm, bel_alloc (bel_alloc (bel_refl w) _) _⟩
  have d1 : decide (1 ≤ op) = true := by simp; omega
  by_cases h2 : 13 < op
  · have d2 : decide (op ≤ 13) = false := by simp; omega
    have HRF : Hid (R = false) := by rw [HRR.out]; show (_ = _); simp; omega
    clear h1 h2
    go_enter Try.func28, Try.ntmps28
    go_wp2_with fail
    go_ret
    exact ⟨ret_bool HRF.out.symm, bel_alloc (bel_alloc (bel_refl w) _) _⟩
  · have d2 : decide (op ≤ 13) = true := by simp; omega
    have HRF : Hid (R = q) := by
      rw [HRR.out, d1, d2]
      exact Bool.true_and q
    clear h1 h2
    go_enter Try.func28, Try.ntmps28
    go_wp2_with fail
    go_ret
    exact ⟨ret_bool HRF.out.symm, bel_alloc (bel_alloc (bel_refl w) _) _⟩
set_option maxHeartbeats 6400000 in
set_option maxRecDepth 100000 in
theorem rnode_5 (tag num : Int) (str : ByteArray) (is : Bool) (code row col t l b r op : Int) (name : ByteArray) (args : Int) (w : World) :
    Calls Try.prog 28 #[.agg #[.int .i64 5, .int .i64 tag, .int .i64 num, .string str, .bool is, .int .i64 code, .int .i64 row, .int .i64 col, .int .i64 t, .int .i64 l, .int .i64 b, .int .i64 r, .int .i64 op, .string name, .int .i64 args]] w fun e w' => e = .returned (.bool (mayN 5 tag num str is code row col t l b r op name args)) ∧ Below w.heap.size w w' := by
  obtain ⟨R, hR⟩ : ∃ R, R = mayN 5 tag num str is code row col t l b r op name args := ⟨_, rfl⟩
  rw [← hR]
  have HR := Lib.hid hR
  clear hR
  obtain ⟨q, hq⟩ : ∃ q, eqN 5 tag num str is code row col t l b r op name args 5 0 0 ⟨#[]⟩ false 0 0 0 0 0 0 0 0 name args = q := ⟨_, rfl⟩
  have heq : ∀ W : World, (binOp .eql 48 (.agg #[.int .i64 5, .int .i64 tag, .int .i64 num, .string str, .bool is, .int .i64 code, .int .i64 row, .int .i64 col, .int .i64 t, .int .i64 l, .int .i64 b, .int .i64 r, .int .i64 op, .string name, .int .i64 args]) (.agg #[.int .i64 5, .int .i64 0, .int .i64 0, .string ⟨#[]⟩, .bool false, .int .i64 0, .int .i64 0, .int .i64 0, .int .i64 0, .int .i64 0, .int .i64 0, .int .i64 0, .int .i64 0, .string name, .int .i64 args])).run Try.prog W = .ok (.bool q) W := fun W => by
    rw [← hq]
    exact eql_node W _ _ _ _ _ _ _ _ _ _ _ _ _ _ _ _ _ _ _ _ _ _ _ _ _ _ _ _ _ _
  have HQ : Hid (eqN 5 tag num str is code row col t l b r op ⟨#[]⟩ 0 5 0 0 ⟨#[]⟩ false 0 0 0 0 0 0 0 0 ⟨#[]⟩ 0 = q) := by
    show (_ = _)
    rw [← refN_5]
    exact hq
  clear hq
  obtain ⟨m, hm⟩ : ∃ m, namedB name = m := ⟨_, rfl⟩
  have HM := Lib.hid hm
  have HRR : Hid (R = ((m && decide (0 ≤ args) && decide (args ≤ 16)) && q)) := by
    rw [HR.out, mayN_5, HM.out, HQ.out]
    exact rfl
  clear hm
  go_enter Try.func28, Try.ntmps28
  go_wp2_with fail
  refine (rnamed_any name _).mono ?_
  rintro e w1 ⟨rfl, rfl⟩
  rw [HM.out]
  cases m with
  | false =>
    go_wp2_with fail
    go_ret
    exact ⟨ret_bool (by rw [HRR.out]; simp), bel_alloc (bel_alloc (bel_refl w) _) _⟩
  | true =>
    by_cases h1 : args < 0
    · have d1 : decide (0 ≤ args) = false := by simp; omega
      have HRF : Hid (R = false) := by rw [HRR.out]; show (_ = _); simp; omega
      clear h1
      go_wp2_with fail
      go_ret
      exact ⟨ret_bool HRF.out.symm, bel_alloc (bel_alloc (bel_refl w) _) _⟩
    have d1 : decide (0 ≤ args) = true := by simp; omega
    by_cases h2 : 16 < args
    · have d2 : decide (args ≤ 16) = false := by simp; omega
      have HRF : Hid (R = false) := by rw [HRR.out]; show (_ = _); simp; omega
      clear h1 h2
      go_wp2_with fail
      go_ret
      exact ⟨ret_bool HRF.out.symm, bel_alloc (bel_alloc (bel_refl w) _) _⟩
    · have d2 : decide (args ≤ 16) = true := by simp; omega
      have HRF : Hid (R = q) := by
        rw [HRR.out, d1, d2]
        exact Bool.true_and q
      clear h1 h2
      go_wp2_with fail
      go_ret
      exact ⟨ret_bool HRF.out.symm, bel_alloc (bel_alloc (bel_refl w) _) _⟩
set_option maxHeartbeats 6400000 in
set_option maxRecDepth 100000 in
theorem rnode_any (k tag num : Int) (str : ByteArray) (is : Bool) (code row col t l b r op : Int) (name : ByteArray) (args : Int) (w : World) :
    Calls Try.prog 28 #[.agg #[.int .i64 k, .int .i64 tag, .int .i64 num, .string str, .bool is, .int .i64 code, .int .i64 row, .int .i64 col, .int .i64 t, .int .i64 l, .int .i64 b, .int .i64 r, .int .i64 op, .string name, .int .i64 args]] w fun e w' => e = .returned (.bool (mayN k tag num str is code row col t l b r op name args)) ∧ Below w.heap.size w w' := by
  obtain ⟨R, hR⟩ : ∃ R, R = mayN k tag num str is code row col t l b r op name args := ⟨_, rfl⟩
  rw [← hR]
  have HR := Lib.hid hR
  clear hR
  by_cases hk : ¬ (k = 1 ∨ k = 2 ∨ k = 3 ∨ k = 4 ∨ k = 5)
  · have HF : Hid (R = false) := by
      rw [HR.out]
      exact mayN_no _ _ _ _ _ _ _ _ _ _ _ _ _ _ _ hk
    have b1 : (k == 1) = false := by rw [beq_eq_false_iff_ne]; omega
    have b2 : (k == 2) = false := by rw [beq_eq_false_iff_ne]; omega
    have b3 : (k == 3) = false := by rw [beq_eq_false_iff_ne]; omega
    have b4 : (k == 4) = false := by rw [beq_eq_false_iff_ne]; omega
    have b5 : (k == 5) = false := by rw [beq_eq_false_iff_ne]; omega
    clear hk
    go_enter Try.func28, Try.ntmps28
    go_wp2_with fail
    go_ret
    exact ⟨ret_bool HF.out.symm, bel_alloc (bel_alloc (bel_refl w) _) _⟩
  rcases (show k = 1 ∨ k = 2 ∨ k = 3 ∨ k = 4 ∨ k = 5 by omega) with rfl | rfl | rfl | rfl | rfl
  · rw [HR.out]; exact rnode_1 tag num str is code row col t l b r op name args w
  · rw [HR.out]; exact rnode_2 tag num str is code row col t l b r op name args w
  · rw [HR.out]; exact rnode_3 tag num str is code row col t l b r op name args w
  · rw [HR.out]; exact rnode_4 tag num str is code row col t l b r op name args w
  · rw [HR.out]; exact rnode_5 tag num str is code row col t l b r op name args w
end Go.Proofs.Ytifmfkofadhieaa

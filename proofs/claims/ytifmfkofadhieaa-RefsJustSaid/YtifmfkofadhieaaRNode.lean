/-
  Nodes: equality of two nodes; which may be. Conditions: none.
-/
import Derived.Test.YtifmfkofadhieaaRNm2
namespace Go.Proofs.Ytifmfkofadhieaa
open Go.ChangeShapes Go.WideShapes Go.ChangeAt Go.RowKit Go.Deep

/-- Are two nodes the same? -/
def eqN (k tag num : Int) (str : ByteArray) (is : Bool) (code row col t l b r op : Int) (name : ByteArray) (args : Int) (k' tag' num' : Int) (str' : ByteArray) (is' : Bool) (code' row' col' t' l' b' r' op' : Int) (name' : ByteArray) (args' : Int) : Bool :=
  decide (k = k') && eqV tag num str is code tag' num' str' is' code' && decide (row = row') && decide (col = col') && decide (t = t') && decide (l = l') && decide (b = b') && decide (r = r') && decide (op = op') && (name.toList == name'.toList) && decide (args = args')

set_option maxHeartbeats 3200000 in
theorem eqin_node (w : World) (d : Nat) (k tag num : Int) (str : ByteArray) (is : Bool) (code row col t l b r op : Int) (name : ByteArray) (args : Int) (k' tag' num' : Int) (str' : ByteArray) (is' : Bool) (code' row' col' t' l' b' r' op' : Int) (name' : ByteArray) (args' : Int) :
    (Op.equalIn (d + 3) 48 (.agg #[.int .i64 k, .int .i64 tag, .int .i64 num, .string str, .bool is, .int .i64 code, .int .i64 row, .int .i64 col, .int .i64 t, .int .i64 l, .int .i64 b, .int .i64 r, .int .i64 op, .string name, .int .i64 args]) (.agg #[.int .i64 k', .int .i64 tag', .int .i64 num', .string str', .bool is', .int .i64 code', .int .i64 row', .int .i64 col', .int .i64 t', .int .i64 l', .int .i64 b', .int .i64 r', .int .i64 op', .string name', .int .i64 args'])).run Try.prog w =
      .ok (eqN k tag num str is code row col t l b r op name args k' tag' num' str' is' code' row' col' t' l' b' r' op' name' args') w := by
  unfold eqN
  have hv := fun (w : World) (d : Nat) => eqin_val w d tag num code tag' num' code' str str' is is'
  generalize eqV tag num str is code tag' num' str' is' code' = q at hv
  by_cases h1 : k = k'
  · subst h1
    cases q with
    | false => simp [go_sem, hv]
    | true =>
    by_cases h_row : row = row'
    case neg => simp [go_sem, hv, h_row]
    subst h_row
    by_cases h_col : col = col'
    case neg => simp [go_sem, hv, h_col]
    subst h_col
    by_cases h_t : t = t'
    case neg => simp [go_sem, hv, h_t]
    subst h_t
    by_cases h_l : l = l'
    case neg => simp [go_sem, hv, h_l]
    subst h_l
    by_cases h_b : b = b'
    case neg => simp [go_sem, hv, h_b]
    subst h_b
    by_cases h_r : r = r'
    case neg => simp [go_sem, hv, h_r]
    subst h_r
    by_cases h_op : op = op'
    case neg => simp [go_sem, hv, h_op]
    subst h_op
    cases h_n : (name.toList == name'.toList)
    case false => simp [go_sem, hv, h_n]
    by_cases h_a : args = args'
    case neg => simp [go_sem, hv, h_n, h_a]
    subst h_a
    simp [go_sem, hv, h_n]
  · simp [go_sem, h1]
theorem eql_node (w : World) (k tag num : Int) (str : ByteArray) (is : Bool) (code row col t l b r op : Int) (name : ByteArray) (args : Int) (k' tag' num' : Int) (str' : ByteArray) (is' : Bool) (code' row' col' t' l' b' r' op' : Int) (name' : ByteArray) (args' : Int) :
    (binOp .eql 48 (.agg #[.int .i64 k, .int .i64 tag, .int .i64 num, .string str, .bool is, .int .i64 code, .int .i64 row, .int .i64 col, .int .i64 t, .int .i64 l, .int .i64 b, .int .i64 r, .int .i64 op, .string name, .int .i64 args]) (.agg #[.int .i64 k', .int .i64 tag', .int .i64 num', .string str', .bool is', .int .i64 code', .int .i64 row', .int .i64 col', .int .i64 t', .int .i64 l', .int .i64 b', .int .i64 r', .int .i64 op', .string name', .int .i64 args'])).run Try.prog w =
      .ok (.bool (eqN k tag num str is code row col t l b r op name args k' tag' num' str' is' code' row' col' t' l' b' r' op' name' args')) w := by
  rw [run_eql_struct, show (10000 : Nat) = 9997 + 3 from rfl, eqin_node]
  rfl
theorem neq_node (w : World) (k tag num : Int) (str : ByteArray) (is : Bool) (code row col t l b r op : Int) (name : ByteArray) (args : Int) (k' tag' num' : Int) (str' : ByteArray) (is' : Bool) (code' row' col' t' l' b' r' op' : Int) (name' : ByteArray) (args' : Int) :
    (binOp .neq 48 (.agg #[.int .i64 k, .int .i64 tag, .int .i64 num, .string str, .bool is, .int .i64 code, .int .i64 row, .int .i64 col, .int .i64 t, .int .i64 l, .int .i64 b, .int .i64 r, .int .i64 op, .string name, .int .i64 args]) (.agg #[.int .i64 k', .int .i64 tag', .int .i64 num', .string str', .bool is', .int .i64 code', .int .i64 row', .int .i64 col', .int .i64 t', .int .i64 l', .int .i64 b', .int .i64 r', .int .i64 op', .string name', .int .i64 args'])).run Try.prog w =
      .ok (.bool (!eqN k tag num str is code row col t l b r op name args k' tag' num' str' is' code' row' col' t' l' b' r' op' name' args')) w := by
  rw [run_neq_struct, show (10000 : Nat) = 9997 + 3 from rfl, eqin_node]
  rfl
end Go.Proofs.Ytifmfkofadhieaa

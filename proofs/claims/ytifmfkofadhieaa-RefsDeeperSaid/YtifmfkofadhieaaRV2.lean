/-
  Values: contract of the program's test of a value. Conditions: those of each theorem.
-/
import Derived.Test.YtifmfkofadhieaaRV1
import Derived.Laws.StructEq
import Derived.Deep.RegionWith
namespace Go.Proofs.Ytifmfkofadhieaa
open Go.ChangeShapes Go.WideShapes Go.ChangeAt Go.RowKit Go.Deep

/-- Are two values the same? -/
def eqV (t n : Int) (s : ByteArray) (b : Bool) (c : Int) (t' n' : Int) (s' : ByteArray) (b' : Bool) (c' : Int) : Bool :=
  decide (t = t') && decide (n = n') && (s.toList == s'.toList) && (b == b') && decide (c = c')
theorem eqin_val (w : World) (d : Nat) (t n c t' n' c' : Int) (s s' : ByteArray) (b b' : Bool) :
    (Op.equalIn (d + 2) 44 (.agg #[.int .i64 t, .int .i64 n, .string s, .bool b, .int .i64 c]) (.agg #[.int .i64 t', .int .i64 n', .string s', .bool b', .int .i64 c'])).run Try.prog w =
      .ok (eqV t n s b c t' n' s' b' c') w := by
  unfold eqV
  by_cases h1 : t = t'
  · by_cases h2 : n = n'
    · cases h3 : (s.toList == s'.toList)
      · subst h1 h2
        simp [go_sem, h3]
      · cases h4 : (b == b')
        · subst h1 h2
          simp [go_sem, h3, h4]
        · by_cases h5 : c = c'
          · subst h1 h2 h5
            simp [go_sem, h3, h4]
          · subst h1 h2
            simp [go_sem, h3, h4, h5]
    · subst h1
      simp [go_sem, h2]
  · simp [go_sem, h1]
theorem neq_val (w : World) (t n c t' n' c' : Int) (s s' : ByteArray) (b b' : Bool) :
    (binOp .neq 44 (.agg #[.int .i64 t, .int .i64 n, .string s, .bool b, .int .i64 c]) (.agg #[.int .i64 t', .int .i64 n', .string s', .bool b', .int .i64 c'])).run Try.prog w =
      .ok (.bool (!eqV t n s b c t' n' s' b' c')) w := by
  rw [run_neq_struct, show (10000 : Nat) = 9998 + 2 from rfl, eqin_val]
  rfl

theorem dec_any (x : Int) (w : World) (hx : -9223372036854775808 ≤ x) :
    Calls Try.prog 42 #[.int .i64 x] w fun e w' => e = .returned (.bool (decide (-9223372036854775807 ≤ x))) ∧ w = w' := by
  by_cases h : x = -9223372036854775808
  · subst h
    go_enter Try.func42, Try.ntmps42
    go_wp2_with fail
    go_ret
    exact ⟨rfl, rfl⟩
  · have h' : (x != -9223372036854775808) = true := by simpa using h
    have h2 : decide (-9223372036854775807 ≤ x) = true := by simp; omega
    rw [h2]
    clear h2 h hx
    go_enter Try.func42, Try.ntmps42
    go_wp2_with fail
    go_ret
    exact ⟨rfl, rfl⟩

theorem bare_any (tag num : Int) (str : ByteArray) (is : Bool) (code : Int) (w : World) :
    Calls Try.prog 41 #[.agg #[.int .i64 tag, .int .i64 num, .string str, .bool is, .int .i64 code]] w fun e w' =>
      e = .returned (.agg #[.int .i64 tag, .int .i64 (if tag = 1 then 0 else num), .string (if tag = 2 then ⟨#[]⟩ else str), .bool (if tag = 3 then false else is), .int .i64 (if tag = 4 then 0 else code)]) ∧ Below w.heap.size w w' := by
  by_cases t1 : tag = 1
  · subst t1
    rw [if_pos rfl, if_neg (by decide), if_neg (by decide), if_neg (by decide)]
    go_enter Try.func41, Try.ntmps41
    go_wp2_with fail
    exact bodyPost_ret (v := .agg #[.int .i64 1, .int .i64 0, .string str, .bool is, .int .i64 code]) (by simp [results, Try.results41, go_sem]) rfl ⟨rfl, bel_alloc (bel_alloc (bel_refl w) _) _⟩
  · skip
    by_cases t2 : tag = 2
    · subst t2
      clear t1
      rw [if_neg (by decide), if_pos rfl, if_neg (by decide), if_neg (by decide)]
      go_enter Try.func41, Try.ntmps41
      go_wp2_with fail
      exact bodyPost_ret (v := .agg #[.int .i64 2, .int .i64 num, .string ⟨#[]⟩, .bool is, .int .i64 code]) (by simp [results, Try.results41, go_sem]) rfl ⟨rfl, bel_alloc (bel_alloc (bel_refl w) _) _⟩
    · skip
      by_cases t3 : tag = 3
      · subst t3
        clear t1 t2
        rw [if_neg (by decide), if_neg (by decide), if_pos rfl, if_neg (by decide)]
        go_enter Try.func41, Try.ntmps41
        go_wp2_with fail
        exact bodyPost_ret (v := .agg #[.int .i64 3, .int .i64 num, .string str, .bool false, .int .i64 code]) (by simp [results, Try.results41, go_sem]) rfl ⟨rfl, bel_alloc (bel_alloc (bel_refl w) _) _⟩
      · skip
        by_cases t4 : tag = 4
        · subst t4
          clear t1 t2 t3
          rw [if_neg (by decide), if_neg (by decide), if_neg (by decide), if_pos rfl]
          go_enter Try.func41, Try.ntmps41
          go_wp2_with fail
          exact bodyPost_ret (v := .agg #[.int .i64 4, .int .i64 num, .string str, .bool is, .int .i64 0]) (by simp [results, Try.results41, go_sem]) rfl ⟨rfl, bel_alloc (bel_alloc (bel_refl w) _) _⟩
        · skip
          have q1 : (tag == 1) = false := by simpa using t1
          have q2 : (tag == 2) = false := by simpa using t2
          have q3 : (tag == 3) = false := by simpa using t3
          have q4 : (tag == 4) = false := by simpa using t4
          rw [if_neg t1, if_neg t2, if_neg t3, if_neg t4]
          clear t1 t2 t3 t4
          go_enter Try.func41, Try.ntmps41
          go_wp2_with fail
          exact bodyPost_ret (v := .agg #[.int .i64 tag, .int .i64 num, .string str, .bool is, .int .i64 code]) (by simp [results, Try.results41, go_sem]) rfl ⟨rfl, bel_alloc (bel_alloc (bel_refl w) _) _⟩

end Go.Proofs.Ytifmfkofadhieaa

/-
  References of a formula: plain; equality of two; keys; the document's Ref. Conditions: those of each theorem.
-/
import Derived.Test.YtifmfkofadhieaaRTop
import Derived.Test.YtifmfkofadhieaaRNode
import Derived.Maps.OwnSet
import Derived.Maps.OwnOps
import Derived.DeepKeys4
namespace Go.Proofs.Ytifmfkofadhieaa
open Go.ChangeShapes Go.WideShapes Go.ChangeAt Go.RowKit Go.Deep

structure Rf where
  m : Bool
  t : Int
  l : Int
  b : Int
  r : Int
  deriving DecidableEq
def KF : Knd Rf where
  t := 37
  size := 5
  bytes := 40
  enc x := [.bool x.m, .int .i64 x.t, .int .i64 x.l, .int .i64 x.b, .int .i64 x.r]
  len _ := rfl
  one x u hu := by
    simp at hu
    rcases hu with rfl | rfl | rfl | rfl | rfl <;> rfl
  pos := by omega
theorem info_kf : (Try.prog.info? KF.t).map (fun i => (i.zero, i.size, i.bytes)) = some (some (.agg #[.bool false, .int .i64 0, .int .i64 0, .int .i64 0, .int .i64 0]), KF.size, KF.bytes) := by kernel_rfl
def refV (x : Rf) : Value := .agg #[.bool x.m, .int .i64 x.t, .int .i64 x.l, .int .i64 x.b, .int .i64 x.r]
theorem refV_inj {x y : Rf} (h : refV x = refV y) : x = y := by
  obtain ⟨m, t, l, b, r⟩ := x
  obtain ⟨m', t', l', b', r'⟩ := y
  simp [refV] at h
  obtain ⟨rfl, rfl, rfl, rfl, rfl⟩ := h
  rfl

/-- A node's reference. -/
def refN (x : Nd) : Option Rf := if x.k = 2 then some ⟨false, x.row, x.col, x.row, x.col⟩ else if x.k = 3 then some ⟨true, x.t, x.l, x.b, x.r⟩ else none
theorem rfN_2 (tag num : Int) (str : ByteArray) (is : Bool) (code row col t l b r op : Int) (name : ByteArray) (args : Int) : refN ⟨2, tag, num, str, is, code, row, col, t, l, b, r, op, name, args⟩ = some ⟨false, row, col, row, col⟩ := rfl
theorem rfN_3 (tag num : Int) (str : ByteArray) (is : Bool) (code row col t l b r op : Int) (name : ByteArray) (args : Int) : refN ⟨3, tag, num, str, is, code, row, col, t, l, b, r, op, name, args⟩ = some ⟨true, t, l, b, r⟩ := rfl
theorem rfN_no {k tag num : Int} {str : ByteArray} {is : Bool} {code row col t l b r op : Int} {name : ByteArray} {args : Int} (h2 : k ≠ 2) (h3 : k ≠ 3) : refN ⟨k, tag, num, str, is, code, row, col, t, l, b, r, op, name, args⟩ = none := (if_neg h2).trans (if_neg h3)
def addR (out : List Rf) (x : Nd) : List Rf := match refN x with
  | some r => if r ∈ out then out else out ++ [r]
  | none => out
def ofL (l : List Nd) : List Rf := l.foldl addR []
noncomputable def ofN (l : List Nd) : List Rf := if chkI (depthN l) = 0 then ofL l else []
theorem ofL_take {l : List Nd} {i : Nat} {x : Nd} (hx : l[i]? = some x) : ofL (l.take (i + 1)) = addR (ofL (l.take i)) x := by
  unfold ofL
  rw [List.take_add_one, hx, Option.toList_some, List.foldl_append]
  rfl
theorem addR_len (out : List Rf) (x : Nd) : (addR out x).length ≤ out.length + 1 := by
  unfold addR
  split
  · split
    · omega
    · simp
  · omega
theorem ofL_len (l : List Nd) : ∀ i, (ofL (l.take i)).length ≤ i
  | 0 => by simp [ofL]
  | i + 1 => by
    have ih := ofL_len l i
    cases hx : l[i]? with
    | none =>
      rw [List.take_add_one, hx]
      simp
      omega
    | some x =>
      rw [ofL_take hx]
      have := addR_len (ofL (l.take i)) x
      omega
theorem addR_hit {out : List Rf} {x : Nd} {r : Rf} (h : refN x = some r) (hm : r ∈ out) : addR out x = out := by
  unfold addR
  rw [h]
  exact if_pos hm
theorem addR_new {out : List Rf} {x : Nd} {r : Rf} (h : refN x = some r) (hm : r ∉ out) : addR out x = out ++ [r] := by
  unfold addR
  rw [h]
  exact if_neg hm
theorem addR_none {out : List Rf} {x : Nd} (h : refN x = none) : addR out x = out := by
  unfold addR
  rw [h]
/-- What runs is of nodes that may be. -/
theorem may_of_run {l : List Nd} {st st' : List Pt} (h : runN l st = some st') : ∀ x, x ∈ l → mayNd x = true := by
  induction l generalizing st with
  | nil => intro x hx; simp at hx
  | cons y l ih =>
    have h' : (stepN y st).bind (runN l) = some st' := h
    cases hs : stepN y st with
    | none => rw [hs] at h'; cases h'
    | some s =>
      rw [hs] at h'
      intro x hx
      rcases List.mem_cons.1 hx with rfl | hx
      · cases hm : mayNd x with
        | true => rfl
        | false => rw [step_no hm] at hs; cases hs
      · exact ih h' x hx
theorem run_of_depth {l : List Nd} {d : Nat} (h : depthN l = some d) : ∃ p : Pt, runN l [] = some [p] ∧ p.m = false ∧ p.d = d ∧ 1 ≤ l.length ∧ l.length ≤ 1024 := by
  by_cases hs : l.length < 1 ∨ 1024 < l.length
  · rw [depth_size hs] at h
    cases h
  cases hr : runN l [] with
  | none => rw [depth_run hs hr] at h; cases h
  | some st =>
    by_cases h1 : st.length = 1
    · obtain ⟨p, rfl⟩ := List.length_eq_one_iff.1 h1
      rw [depth_one hs hr] at h
      cases hm : p.m with
      | true => rw [hm] at h; cases h
      | false =>
        rw [hm] at h
        injection h with h
        exact ⟨p, rfl, hm, h, by omega, by omega⟩
    · rw [depth_many hs hr h1] at h
      cases h
theorem chk_ok {l : List Nd} (h : chkI (depthN l) = 0) : ∃ d, depthN l = some d ∧ d ≤ 32 := by
  cases hd : depthN l with
  | none => rw [hd] at h; cases h
  | some d =>
    rw [hd] at h
    refine ⟨d, rfl, ?_⟩
    by_cases h' : 32 < d
    · rw [show chkI (some d) = 20 from if_pos h'] at h
      cases h
    · omega
theorem chk_01 (o : Option Nat) : chkI o = 0 ∨ chkI o = 20 := by
  cases o with
  | none => exact .inr rfl
  | some d =>
    by_cases h' : 32 < d
    · exact .inr (if_pos h')
    · exact .inl (if_neg h')

/-- Small numbers. -/
def rngF (x : Rf) : Prop := (-9223372036854775808 ≤ x.t ∧ x.t ≤ 9223372036854775807) ∧ (-9223372036854775808 ≤ x.l ∧ x.l ≤ 9223372036854775807) ∧ (-9223372036854775808 ≤ x.b ∧ x.b ≤ 9223372036854775807) ∧ (-9223372036854775808 ≤ x.r ∧ x.r ≤ 9223372036854775807)
theorem wf_i64 {z : Int} (h : -9223372036854775808 ≤ z ∧ z ≤ 9223372036854775807) : (Lit.int .i64 z).wf = true := by
  simpa [Lit.wf, IntKind.min, IntKind.max, IntKind.signed, IntKind.bits] using h

theorem law_ref : Maps.Keyed Try.prog 37 := Maps.Keyed.of_law (deep_law_laid (by kernel_rfl) (m := 3) (by omega) (of_decide_eq_true (by kernel_rfl)) (by kernel_rfl) (by rw [Try.underlying37]))
theorem key_ex (x : Rf) (h : rngF x) : ∃ kl, keyOf Try.prog 37 (refV x) = some kl := by
  obtain ⟨h1, h2, h3, h4⟩ := h
  have w1 := wf_i64 h1
  have w2 := wf_i64 h2
  have w3 := wf_i64 h3
  have w4 := wf_i64 h4
  have hk : Try.prog.keyType 37 = true := by kernel_rfl
  have hc : Try.prog.cellsOf 37 = 5 := by kernel_rfl
  have hc2 : Try.prog.cellsOf 35 = 4 := by kernel_rfl
  have hc3 : Try.prog.cellsOf 3 = 1 := by kernel_rfl
  have hc4 : Try.prog.cellsOf 4 = 1 := by kernel_rfl
  have hf : (refV x).formed Try.prog 37 = true := by simp [refV, Value.formed, Try.underlying37, hc]
  obtain ⟨n, hn⟩ : ∃ n, Try.prog.types.size + 1 = n + 3 := ⟨Try.prog.types.size - 2, by
    have : (3 : Nat) ≤ Try.prog.types.size := of_decide_eq_true (by kernel_rfl)
    omega⟩
  have hl : Try.prog.keyLits (n + 3) 37 (refV x).cells.toList = some [.bool x.m, .int .i64 x.t, .int .i64 x.l, .int .i64 x.b, .int .i64 x.r] := by
    simp [Program.keyLits, Try.underlying37, Try.underlying35, Try.underlying3, Try.underlying4, hc, hc2, hc3, hc4, refV, Value.cells, w1, w2, w3, w4]
    rw [if_pos (by
      intro i hi
      match i, hi with
      | 0, _ => simp
      | 1, _ => simp
      | 2, _ => simp
      | 3, _ => simp)]
    rfl
  refine ⟨.string (keyBytes [.bool x.m, .int .i64 x.t, .int .i64 x.l, .int .i64 x.b, .int .i64 x.r]), ?_⟩
  unfold keyOf
  rw [Try.underlying37]
  simp only [hk, hf, Bool.and_self, if_true]
  rw [hn, hl]
  rfl

set_option maxHeartbeats 3200000 in
theorem eqin_ref (w : World) (d : Nat) (x y : Rf) : (Op.equalIn (d + 3) 37 (refV x) (refV y)).run Try.prog w = .ok (decide (x = y)) w := by
  obtain ⟨m, t, l, b, r⟩ := x
  obtain ⟨m', t', l', b', r'⟩ := y
  by_cases h1 : m = m'
  case neg => simp [go_sem, refV, h1]
  subst h1
  by_cases h2 : t = t'
  case neg => simp [go_sem, refV, h2]
  subst h2
  by_cases h3 : l = l'
  case neg => simp [go_sem, refV, h3]
  subst h3
  by_cases h4 : b = b'
  case neg => simp [go_sem, refV, h4]
  subst h4
  by_cases h5 : r = r'
  case neg => simp [go_sem, refV, h5]
  subst h5
  simp [go_sem, refV]
theorem eql_ref (w : World) (m : Bool) (t l b r : Int) (m' : Bool) (t' l' b' r' : Int) :
    (binOp .eql 37 (.agg #[.bool m, .int .i64 t, .int .i64 l, .int .i64 b, .int .i64 r]) (.agg #[.bool m', .int .i64 t', .int .i64 l', .int .i64 b', .int .i64 r'])).run Try.prog w =
      .ok (.bool (decide ((⟨m, t, l, b, r⟩ : Rf) = ⟨m', t', l', b', r'⟩))) w := by
  have := eqin_ref w 9997 ⟨m, t, l, b, r⟩ ⟨m', t', l', b', r'⟩
  rw [run_eql_struct, show (10000 : Nat) = 9997 + 3 from rfl]
  unfold refV at this
  rw [this]
  rfl
theorem neq_ref (w : World) (m : Bool) (t l b r : Int) (m' : Bool) (t' l' b' r' : Int) :
    (binOp .neq 37 (.agg #[.bool m, .int .i64 t, .int .i64 l, .int .i64 b, .int .i64 r]) (.agg #[.bool m', .int .i64 t', .int .i64 l', .int .i64 b', .int .i64 r'])).run Try.prog w =
      .ok (.bool (!decide ((⟨m, t, l, b, r⟩ : Rf) = ⟨m', t', l', b', r'⟩))) w := by
  have := eqin_ref w 9997 ⟨m, t, l, b, r⟩ ⟨m', t', l', b', r'⟩
  rw [run_neq_struct, show (10000 : Nat) = 9997 + 3 from rfl]
  unfold refV at this
  rw [this]
  rfl

def refO : Option Rf → Value
  | some r => .tuple #[refV r, .bool true]
  | none => .tuple #[.agg #[.bool false, .int .i64 0, .int .i64 0, .int .i64 0, .int .i64 0], .bool false]
theorem rref_any (k tag num : Int) (str : ByteArray) (is : Bool) (code row col t l b r op : Int) (name : ByteArray) (args : Int) (w : World) :
    Calls Try.prog 20 #[.agg #[.int .i64 k, .int .i64 tag, .int .i64 num, .string str, .bool is, .int .i64 code, .int .i64 row, .int .i64 col, .int .i64 t, .int .i64 l, .int .i64 b, .int .i64 r, .int .i64 op, .string name, .int .i64 args]] w fun e w' => e = .returned (refO (refN ⟨k, tag, num, str, is, code, row, col, t, l, b, r, op, name, args⟩)) ∧ Below w.heap.size w w' := by
  by_cases h2 : k = 2
  · subst h2
    rw [rfN_2]
    go_enter Try.func20, Try.ntmps20
    go_wp2_with fail
    exact bodyPost_ret (v := .tuple #[.agg #[.bool false, .int .i64 row, .int .i64 col, .int .i64 row, .int .i64 col], .bool true]) (by simp [results, Try.results20, go_sem]) rfl ⟨rfl, bel_alloc (bel_alloc (bel_refl w) _) _⟩
  by_cases h3 : k = 3
  · subst h3
    rw [rfN_3]
    clear h2
    go_enter Try.func20, Try.ntmps20
    go_wp2_with fail
    exact bodyPost_ret (v := .tuple #[.agg #[.bool true, .int .i64 t, .int .i64 l, .int .i64 b, .int .i64 r], .bool true]) (by simp [results, Try.results20, go_sem]) rfl ⟨rfl, bel_alloc (bel_alloc (bel_refl w) _) _⟩
  · rw [rfN_no h2 h3]
    have b2 : (k == 2) = false := by rw [beq_eq_false_iff_ne]; exact h2
    have b3 : (k == 3) = false := by rw [beq_eq_false_iff_ne]; exact h3
    clear h2 h3
    go_enter Try.func20, Try.ntmps20
    go_wp2_with fail
    exact bodyPost_ret (v := .tuple #[.agg #[.bool false, .int .i64 0, .int .i64 0, .int .i64 0, .int .i64 0], .bool false]) (by simp [results, Try.results20, go_sem]) rfl ⟨rfl, bel_alloc (bel_alloc (bel_refl w) _) _⟩
end Go.Proofs.Ytifmfkofadhieaa

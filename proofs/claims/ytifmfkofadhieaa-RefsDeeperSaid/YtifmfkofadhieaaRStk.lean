/-
  Formulas: what a row of nodes comes to (plain); contracts of level, Level, inside, within, takes. Conditions: those of each theorem.
-/
import Derived.Test.YtifmfkofadhieaaRNd
namespace Go.Proofs.Ytifmfkofadhieaa
open Go.ChangeShapes Go.WideShapes Go.ChangeAt Go.RowKit Go.Deep

structure Nd where
  k : Int
  tag : Int
  num : Int
  str : ByteArray
  is : Bool
  code : Int
  row : Int
  col : Int
  t : Int
  l : Int
  b : Int
  r : Int
  op : Int
  name : ByteArray
  args : Int
def KN : Knd Nd where
  t := 48
  size := 15
  bytes := 136
  enc x := [.int .i64 x.k, .int .i64 x.tag, .int .i64 x.num, .string x.str, .bool x.is, .int .i64 x.code, .int .i64 x.row, .int .i64 x.col, .int .i64 x.t, .int .i64 x.l, .int .i64 x.b, .int .i64 x.r, .int .i64 x.op, .string x.name, .int .i64 x.args]
  len _ := rfl
  one x u hu := by
    simp at hu
    rcases hu with rfl | rfl | rfl | rfl | rfl | rfl | rfl | rfl | rfl | rfl | rfl | rfl | rfl | rfl | rfl <;> rfl
  pos := by omega
theorem info_node : (Try.prog.info? KN.t).map (fun i => (i.size, i.bytes)) = some (KN.size, KN.bytes) := by kernel_rfl

/-- What was put together so far: how many brackets, how closely it binds, whether it is a rectangle. -/
structure Pt where
  d : Nat
  bi : Nat
  m : Bool
def encP (x : Pt) : List Value := [.int .i64 x.d, .int .i64 x.bi, .bool x.m]
theorem encP_one (x : Pt) : ∀ u ∈ encP x, u.oneCell' = true := by
  intro u hu
  simp [encP] at hu
  rcases hu with rfl | rfl | rfl <;> rfl
def KP : Knd Pt where
  t := 61
  size := 3
  bytes := 24
  enc := encP
  len _ := rfl
  one := encP_one
  pos := by omega
def KR : Knd Pt where
  t := 55
  size := 3
  bytes := 24
  enc := encP
  len _ := rfl
  one := encP_one
  pos := by omega
theorem info_kp : (Try.prog.info? KP.t).map (fun i => (i.zero, i.size, i.bytes)) = some (some (.agg #[.int .i64 0, .int .i64 0, .bool false]), KP.size, KP.bytes) := by kernel_rfl
theorem info_kr : (Try.prog.info? KR.t).map (fun i => (i.zero, i.size, i.bytes)) = some (some (.agg #[.int .i64 0, .int .i64 0, .bool false]), KR.size, KR.bytes) := by kernel_rfl

def lvl (op : Int) : Nat := if op = 1 then 5 else if op = 2 then 6 else if op = 3 ∨ op = 4 then 4 else if op = 5 ∨ op = 6 then 3 else if op = 7 then 2 else 1
theorem lvl_le (op : Int) : 1 ≤ lvl op ∧ lvl op ≤ 6 := by
  unfold lvl
  repeat' split
  all_goals omega
def insd (p : Pt) (least : Nat) : Nat := if p.bi < least then p.d + 1 else p.d
noncomputable def mayNd (x : Nd) : Bool := mayN x.k x.tag x.num x.str x.is x.code x.row x.col x.t x.l x.b x.r x.op x.name x.args
def opq (op : Int) : Nat := if op = 1 ∨ op = 2 then 1 else 2
/-- The deepest of some. -/
def mxd (st : List Pt) : Nat := st.foldl (fun d p => max d p.d) 0
/-- What a node makes of what lies there. -/
noncomputable def stepN (x : Nd) (st : List Pt) : Option (List Pt) :=
  if mayNd x = false then none else
  if x.k = 3 then some (st ++ [⟨0, 7, true⟩]) else
  if x.k = 4 then
    if st.length < opq x.op then none else
    match st.drop (st.length - opq x.op) with
    | [a] => if a.m = true then none else some (st.take (st.length - 1) ++ [⟨insd a (lvl x.op), lvl x.op, false⟩])
    | [a, b] => if a.m = true ∨ b.m = true then none else some (st.take (st.length - 2) ++ [⟨max (insd a (lvl x.op)) (insd b (lvl x.op + 1)), lvl x.op, false⟩])
    | _ => none
  else if x.k = 5 then
    if st.length < x.args.toNat then none else some (st.take (st.length - x.args.toNat) ++ [⟨mxd (st.drop (st.length - x.args.toNat)) + 1, 7, false⟩])
  else some (st ++ [⟨0, 7, false⟩])
noncomputable def runN : List Nd → List Pt → Option (List Pt)
  | [], st => some st
  | x :: l, st => (stepN x st).bind (runN l)
noncomputable def depthN (l : List Nd) : Option Nat :=
  if l.length < 1 ∨ 1024 < l.length then none else
  match runN l [] with
  | some [p] => if p.m = true then none else some p.d
  | _ => none

theorem level_any (op : Int) (w : World) :
    Calls Try.prog 26 #[.int .i64 op] w fun e w' => e = .returned (.int .i64 (lvl op)) ∧ w = w' := by
  obtain ⟨R, hR⟩ : ∃ R, R = lvl op := ⟨_, rfl⟩
  rw [← hR]
  rcases (show op = 1 ∨ op = 2 ∨ op = 3 ∨ op = 4 ∨ op = 5 ∨ op = 6 ∨ op = 7 ∨ ¬ (1 ≤ op ∧ op ≤ 7) by omega) with rfl | rfl | rfl | rfl | rfl | rfl | rfl | h
  case inr.inr.inr.inr.inr.inr.inr =>
    have h1 : R = 1 := by
      rw [hR]
      unfold lvl
      rw [if_neg (by omega), if_neg (by omega), if_neg (by omega), if_neg (by omega), if_neg (by omega)]
    subst h1
    have b1 : (op == 1) = false := by rw [beq_eq_false_iff_ne]; omega
    have b2 : (op == 2) = false := by rw [beq_eq_false_iff_ne]; omega
    have b3 : (op == 3) = false := by rw [beq_eq_false_iff_ne]; omega
    have b4 : (op == 4) = false := by rw [beq_eq_false_iff_ne]; omega
    have b5 : (op == 5) = false := by rw [beq_eq_false_iff_ne]; omega
    have b6 : (op == 6) = false := by rw [beq_eq_false_iff_ne]; omega
    have b7 : (op == 7) = false := by rw [beq_eq_false_iff_ne]; omega
    clear hR h
    go_enter Try.func26, Try.ntmps26
    go_wp2_with fail
    go_ret
    exact ⟨rfl, rfl⟩
  all_goals
    have h1 : R = _ := hR.trans (by first | exact (rfl : lvl 1 = 5) | exact (rfl : lvl 2 = 6) | exact (rfl : lvl 3 = 4) | exact (rfl : lvl 4 = 4) | exact (rfl : lvl 5 = 3) | exact (rfl : lvl 6 = 3) | exact (rfl : lvl 7 = 2))
    subst h1
    clear hR
    go_enter Try.func26, Try.ntmps26
    go_wp2_with fail
    go_ret
    exact ⟨rfl, rfl⟩
theorem rlevel_any (op : Int) (w : World) :
    Calls Try.prog 39 #[.int .i64 op] w fun e w' => e = .returned (.int .i64 (lvl op)) ∧ w = w' := by
  obtain ⟨R, hR⟩ : ∃ R, R = lvl op := ⟨_, rfl⟩
  rw [← hR]
  rcases (show op = 1 ∨ op = 2 ∨ op = 3 ∨ op = 4 ∨ op = 5 ∨ op = 6 ∨ op = 7 ∨ ¬ (1 ≤ op ∧ op ≤ 7) by omega) with rfl | rfl | rfl | rfl | rfl | rfl | rfl | h
  case inr.inr.inr.inr.inr.inr.inr =>
    have h1 : R = 1 := by
      rw [hR]
      unfold lvl
      rw [if_neg (by omega), if_neg (by omega), if_neg (by omega), if_neg (by omega), if_neg (by omega)]
    subst h1
    have b1 : (op == 1) = false := by rw [beq_eq_false_iff_ne]; omega
    have b2 : (op == 2) = false := by rw [beq_eq_false_iff_ne]; omega
    have b3 : (op == 3) = false := by rw [beq_eq_false_iff_ne]; omega
    have b4 : (op == 4) = false := by rw [beq_eq_false_iff_ne]; omega
    have b5 : (op == 5) = false := by rw [beq_eq_false_iff_ne]; omega
    have b6 : (op == 6) = false := by rw [beq_eq_false_iff_ne]; omega
    have b7 : (op == 7) = false := by rw [beq_eq_false_iff_ne]; omega
    clear hR h
    go_enter Try.func39, Try.ntmps39
    go_wp2_with fail
    go_ret
    exact ⟨rfl, rfl⟩
  all_goals
    have h1 : R = _ := hR.trans (by first | exact (rfl : lvl 1 = 5) | exact (rfl : lvl 2 = 6) | exact (rfl : lvl 3 = 4) | exact (rfl : lvl 4 = 4) | exact (rfl : lvl 5 = 3) | exact (rfl : lvl 6 = 3) | exact (rfl : lvl 7 = 2))
    subst h1
    clear hR
    go_enter Try.func39, Try.ntmps39
    go_wp2_with fail
    go_ret
    exact ⟨rfl, rfl⟩
theorem inside_any (p : Pt) (least : Nat) (w : World) (hd : p.d ≤ 2000) (hb : p.bi ≤ 7) :
    Calls Try.prog 27 #[.agg #[.int .i64 p.d, .int .i64 p.bi, .bool p.m], .int .i64 least] w fun e w' => e = .returned (.int .i64 (insd p least)) ∧ Below w.heap.size w w' := by
  unfold insd
  obtain ⟨d, bi, m⟩ := p
  dsimp only at hd hb ⊢
  by_cases h : bi < least
  · rw [if_pos h]
    go_enter Try.func27, Try.ntmps27
    go_wp2_with fail
    go_ret
    exact ⟨by simp, bel_alloc (bel_refl w) _⟩
  · rw [if_neg h]
    go_enter Try.func27, Try.ntmps27
    go_wp2_with fail
    go_ret
    exact ⟨by simp, bel_alloc (bel_refl w) _⟩
theorem within_any' (p : Pt) (least : Nat) (w : World) (hd : p.d ≤ 2000) (hb : p.bi ≤ 7) :
    Calls Try.prog 40 #[.agg #[.int .i64 p.d, .int .i64 p.bi, .bool p.m], .int .i64 least] w fun e w' => e = .returned (.int .i64 (insd p least)) ∧ Below w.heap.size w w' := by
  unfold insd
  obtain ⟨d, bi, m⟩ := p
  dsimp only at hd hb ⊢
  by_cases h : bi < least
  · rw [if_pos h]
    go_enter Try.func40, Try.ntmps40
    go_wp2_with fail
    go_ret
    exact ⟨by simp, bel_alloc (bel_refl w) _⟩
  · rw [if_neg h]
    go_enter Try.func40, Try.ntmps40
    go_wp2_with fail
    go_ret
    exact ⟨by simp, bel_alloc (bel_refl w) _⟩
end Go.Proofs.Ytifmfkofadhieaa

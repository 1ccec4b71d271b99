/-
  Formulas: contracts of orielref05's takes and part. Conditions: those of each theorem.
-/
import Derived.Test.YtifmfkofadhieaaRStk
namespace Go.Proofs.Ytifmfkofadhieaa
open Go.ChangeShapes Go.WideShapes Go.ChangeAt Go.RowKit Go.Deep

def takesI (k op args : Int) : Int := if k = 5 then args else if k = 4 then (if op = 1 ∨ op = 2 then 1 else 2) else 0
theorem takes_any (k tag num : Int) (str : ByteArray) (is : Bool) (code row col t l b r op : Int) (name : ByteArray) (args : Int) (w : World) :
    Calls Try.prog 29 #[.agg #[.int .i64 k, .int .i64 tag, .int .i64 num, .string str, .bool is, .int .i64 code, .int .i64 row, .int .i64 col, .int .i64 t, .int .i64 l, .int .i64 b, .int .i64 r, .int .i64 op, .string name, .int .i64 args]] w fun e w' => e = .returned (.int .i64 (takesI k op args)) ∧ Below w.heap.size w w' := by
  obtain ⟨R, hR⟩ : ∃ R, R = takesI k op args := ⟨_, rfl⟩
  rw [← hR]
  unfold takesI at hR
  by_cases h5 : k = 5
  · subst h5
    rw [if_pos rfl] at hR
    subst hR
    go_enter Try.func29, Try.ntmps29
    go_wp2_with fail
    go_ret
    exact ⟨rfl, bel_alloc (bel_refl w) _⟩
  rw [if_neg h5] at hR
  by_cases h4 : k = 4
  · subst h4
    clear h5
    rw [if_pos rfl] at hR
    by_cases h1 : op = 1
    · subst h1
      rw [if_pos (.inl rfl)] at hR
      subst hR
      go_enter Try.func29, Try.ntmps29
      go_wp2_with fail
      go_ret
      exact ⟨rfl, bel_alloc (bel_refl w) _⟩
    have b1 : (op == 1) = false := by rw [beq_eq_false_iff_ne]; exact h1
    by_cases h2 : op = 2
    · subst h2
      clear h1
      rw [if_pos (.inr rfl)] at hR
      subst hR
      go_enter Try.func29, Try.ntmps29
      go_wp2_with fail
      go_ret
      exact ⟨rfl, bel_alloc (bel_refl w) _⟩
    · have b2 : (op == 2) = false := by rw [beq_eq_false_iff_ne]; exact h2
      rw [if_neg (by omega)] at hR
      subst hR
      clear h1 h2
      go_enter Try.func29, Try.ntmps29
      go_wp2_with fail
      go_ret
      exact ⟨rfl, bel_alloc (bel_refl w) _⟩
  · rw [if_neg h4] at hR
    subst hR
    have b1 : (k == 5) = false := by rw [beq_eq_false_iff_ne]; exact h5
    have b2 : (k == 4) = false := by rw [beq_eq_false_iff_ne]; exact h4
    clear h4 h5
    go_enter Try.func29, Try.ntmps29
    go_wp2_with fail
    go_ret
    exact ⟨rfl, bel_alloc (bel_refl w) _⟩

/-- The deepest behind i of them, each one bound closer. -/
def opd (lv : Nat) (M : List Pt) : Nat → Nat
  | 0 => 0
  | i + 1 => match M[i]? with
    | some p => max (opd lv M i) (insd p (lv + i))
    | none => opd lv M i
def partN (k op : Int) (M : List Pt) : Option Pt :=
  if k = 3 then some ⟨0, 7, true⟩ else if k = 5 then some ⟨mxd M + 1, 7, false⟩ else if k = 4 then (if M.any (·.m) then none else some ⟨opd (lvl op) M M.length, lvl op, false⟩) else some ⟨0, 7, false⟩
def ptV : Option Pt → Value
  | some p => .tuple #[.agg #[.int .i64 p.d, .int .i64 p.bi, .bool p.m], .bool true]
  | none => .tuple #[.agg #[.int .i64 0, .int .i64 0, .bool false], .bool false]

theorem mxd_foldl (st : List Pt) : ∀ d, st.foldl (fun d p => max d p.d) d = max d (mxd st) := by
  unfold mxd
  induction st with
  | nil => intro d; simp
  | cons p st ih =>
    intro d
    simp only [List.foldl_cons]
    rw [ih, ih (max 0 p.d)]
    omega
theorem mxd_take (M : List Pt) (i : Nat) (p : Pt) (h : M[i]? = some p) : mxd (M.take (i + 1)) = max (mxd (M.take i)) p.d := by
  unfold mxd
  rw [List.take_add_one, h, Option.toList_some, List.foldl_append]
  rfl
theorem mxd_le (M : List Pt) (n : Nat) (h : ∀ p, p ∈ M → p.d ≤ n) : mxd M ≤ n := by
  induction M with
  | nil => simp [mxd]
  | cons p M ih =>
    have h1 := h p (by simp)
    have h2 := ih (fun q hq => h q (by simp [hq]))
    unfold mxd
    rw [List.foldl_cons, mxd_foldl]
    omega
theorem insd_le (p : Pt) (n least : Nat) (h : p.d ≤ n) : insd p least ≤ n + 1 := by
  unfold insd
  split <;> omega
theorem opd_le (lv : Nat) (M : List Pt) (n : Nat) (h : ∀ p, p ∈ M → p.d ≤ n) : ∀ i, opd lv M i ≤ n + 1
  | 0 => by simp [opd]
  | i + 1 => by
    have ih := opd_le lv M n h i
    unfold opd
    split
    · rename_i p hp
      have := insd_le p n (lv + i) (h p (List.mem_of_getElem? hp))
      omega
    · exact ih

section
variable {w w' : World} {A : Option Addr} {M : List Pt}
theorem part_at (h : Lies KR w A M) {i : Nat} {p : Pt} (hp : M[i]? = some p) : ∃ g off, A = some ⟨g, off, none⟩ ∧ g < w.heap.size ∧ w.cell? ⟨g, off + i * 3, none⟩ = some (.int .i64 p.d) ∧ w.cell? ⟨g, off + i * 3 + 1, none⟩ = some (.int .i64 p.bi) ∧ w.cell? ⟨g, off + i * 3 + 2, none⟩ = some (.bool p.m) := by
  obtain ⟨g, off, h1, h2, h3⟩ := h i p hp
  exact ⟨g, off, h1, h2, h3 0 _ rfl, h3 1 _ rfl, h3 2 _ rfl⟩
end

theorem part_rect (tag num : Int) (str : ByteArray) (is : Bool) (code row col t l b r op : Int) (name : ByteArray) (args : Int) (A : Option Addr) (m c : Nat) (w : World) :
    Calls Try.prog 30 #[.agg #[.int .i64 3, .int .i64 tag, .int .i64 num, .string str, .bool is, .int .i64 code, .int .i64 row, .int .i64 col, .int .i64 t, .int .i64 l, .int .i64 b, .int .i64 r, .int .i64 op, .string name, .int .i64 args], .slice A m c] w fun e w' => e = .returned (.tuple #[.agg #[.int .i64 0, .int .i64 7, .bool true], .bool true]) ∧ Below w.heap.size w w' := by
  go_enter Try.func30, Try.ntmps30
  go_wp2_with fail
  exact bodyPost_ret (v := .tuple #[.agg #[.int .i64 0, .int .i64 7, .bool true], .bool true]) (by simp [results, Try.results30, go_sem]) rfl ⟨rfl, bel_alloc (bel_alloc (bel_refl w) _) _⟩
theorem part_one (k tag num : Int) (str : ByteArray) (is : Bool) (code row col t l b r op : Int) (name : ByteArray) (args : Int) (A : Option Addr) (m c : Nat) (w : World) (h3 : k ≠ 3) (h4 : k ≠ 4) (h5 : k ≠ 5) :
    Calls Try.prog 30 #[.agg #[.int .i64 k, .int .i64 tag, .int .i64 num, .string str, .bool is, .int .i64 code, .int .i64 row, .int .i64 col, .int .i64 t, .int .i64 l, .int .i64 b, .int .i64 r, .int .i64 op, .string name, .int .i64 args], .slice A m c] w fun e w' => e = .returned (.tuple #[.agg #[.int .i64 0, .int .i64 7, .bool false], .bool true]) ∧ Below w.heap.size w w' := by
  have b3 : (k == 3) = false := by rw [beq_eq_false_iff_ne]; exact h3
  have b5 : (k == 5) = false := by rw [beq_eq_false_iff_ne]; exact h5
  have b4 : (k != 4) = true := by rw [bne_iff_ne]; exact h4
  clear h3 h4 h5
  go_enter Try.func30, Try.ntmps30
  go_wp2_with fail
  exact bodyPost_ret (v := .tuple #[.agg #[.int .i64 0, .int .i64 7, .bool false], .bool true]) (by simp [results, Try.results30, go_sem]) rfl ⟨rfl, bel_alloc (bel_alloc (bel_refl w) _) _⟩

set_option maxHeartbeats 3200000 in
set_option maxRecDepth 100000 in
theorem part_call (tag num : Int) (str : ByteArray) (is : Bool) (code row col t l b r op : Int) (name : ByteArray) (args : Int) (A : Option Addr) (M : List Pt) (c : Nat) (w : World) (hM : Lies KR w A M) (hl : M.length ≤ 2000) (hd : ∀ p, p ∈ M → p.d ≤ 2000) :
    Calls Try.prog 30 #[.agg #[.int .i64 5, .int .i64 tag, .int .i64 num, .string str, .bool is, .int .i64 code, .int .i64 row, .int .i64 col, .int .i64 t, .int .i64 l, .int .i64 b, .int .i64 r, .int .i64 op, .string name, .int .i64 args], .slice A M.length c] w fun e w' => e = .returned (.tuple #[.agg #[.int .i64 ((mxd M : Int) + 1), .int .i64 7, .bool false], .bool true]) ∧ Below w.heap.size w w' := by
  have HD := Lib.hid hd
  clear hd
  go_enter Try.func30, Try.ntmps30
  go_wp2_with fail
  have k2' := ((Blk.new w rfl 48 #[.int .i64 5, .int .i64 tag, .int .i64 num, .string str, .bool is, .int .i64 code, .int .i64 row, .int .i64 col, .int .i64 t, .int .i64 l, .int .i64 b, .int .i64 r, .int .i64 op, .string name, .int .i64 args]).alloc (.cells #[.int .i64 0, .int .i64 0, .bool false] 55)).alloc (.cells #[.int .i64 1, .int .i64 7, .bool false] 55)
  have k4' := (Blk.new (w.alloc (.cells #[.int .i64 5, .int .i64 tag, .int .i64 num, .string str, .bool is, .int .i64 code, .int .i64 row, .int .i64 col, .int .i64 t, .int .i64 l, .int .i64 b, .int .i64 r, .int .i64 op, .string name, .int .i64 args] 48)) (g := w.heap.size + 1) (by simp) 55 #[.int .i64 0, .int .i64 0, .bool false]).alloc (.cells #[.int .i64 1, .int .i64 7, .bool false] 55)
  have k6' := Blk.new ((w.alloc (.cells #[.int .i64 5, .int .i64 tag, .int .i64 num, .string str, .bool is, .int .i64 code, .int .i64 row, .int .i64 col, .int .i64 t, .int .i64 l, .int .i64 b, .int .i64 r, .int .i64 op, .string name, .int .i64 args] 48)).alloc (.cells #[.int .i64 0, .int .i64 0, .bool false] 55)) (g := w.heap.size + 1 + 1) (by simp) 55 #[.int .i64 1, .int .i64 7, .bool false]
  have hw' := bel_alloc (bel_alloc (bel_alloc (bel_refl w) (.cells #[.int .i64 5, .int .i64 tag, .int .i64 num, .string str, .bool is, .int .i64 code, .int .i64 row, .int .i64 col, .int .i64 t, .int .i64 l, .int .i64 b, .int .i64 r, .int .i64 op, .string name, .int .i64 args] 48)) (.cells #[.int .i64 0, .int .i64 0, .bool false] 55)) (.cells #[.int .i64 1, .int .i64 7, .bool false] 55)
  go_loopw [7] (fun s7 wr => ∃ i : Nat, i ≤ M.length ∧ s7 = .int .i64 i ∧ Blk wr (w.heap.size + 1) 55 #[.int .i64 0, .int .i64 0, .bool false] ∧ Blk wr (w.heap.size + 1 + 1) 55 #[.int .i64 ((mxd (M.take i) : Int) + 1), .int .i64 7, .bool false] ∧ Below w.heap.size w wr) (fun s7 _ => M.length - (intOf s7).toNat)
  case atStart => exact ⟨0, Nat.zero_le _, rfl, k4', k6', hw'⟩
  case round =>
    obtain ⟨i, hi, rfl, k4, k6, hW⟩ := hrel
    clear k2' k4' k6' hw'
    have rd4 := k4.rd
    have fz4 := k4.fz
    have lt4 := k4.lt
    have rd6 := k6.rd
    have fz6 := k6.fz
    have lt6 := k6.lt
    by_cases hil : i < M.length
    · obtain ⟨p, hp⟩ : ∃ p, M[i]? = some p := ⟨_, List.getElem?_eq_getElem hil⟩
      obtain ⟨g, off, rfl, hg, e0, e1, e2⟩ := part_at (hM.below hW) hp
      have hpd := HD.out p (List.mem_of_getElem? hp)
      have hmd := mxd_le (M.take i) 2000 (fun q hq => HD.out q (List.mem_of_mem_take hq))
      have HT := Lib.hid (mxd_take M i p hp)
      obtain ⟨mx, hmx⟩ : ∃ mx, mx = mxd (M.take i) := ⟨_, rfl⟩
      rw [← hmx] at rd6 hmd
      have HMX := Lib.hid hmx
      clear hp hmx e1 e2
      have i0 : (0 : Int) ≤ (i : Int) := by omega
      have i1 : (i : Int) < (M.length : Int) := by omega
      have hng : ¬ g = w.heap.size + 1 + 1 ∨ True := .inr trivial
      have w1 : IntKind.i64.wrap ((p.d : Int) + 1) = (p.d : Int) + 1 := IntWalk.i64_in _ (by omega)
      by_cases hgt : mx < p.d
      · have hb : decide ((mx : Int) + 1 < (p.d : Int) + 1) = true := by simp; omega
        have hb' : decide ((mx : Int) < (p.d : Int)) = true := by simp; omega
        go_wp2_with fail
        go_quiet (fail)
        go_wp2_with fail
        go_roundw
        case rel =>
          refine ⟨i + 1, by omega, by go_num, (k4.drewN nq).far (by omega) _, ?_, bel_set (bel_drewN hW nq) (by omega) _⟩
          rw [HT.out, ← HMX.out, show max mx p.d = p.d by omega]
          exact (k6.drewN nq).put 0 (.int .i64 ((p.d : Int) + 1))
        case measure => simp [intOf]; omega
      · have hb : decide ((mx : Int) + 1 < (p.d : Int) + 1) = false := by simp; omega
        have hb' : decide ((mx : Int) < (p.d : Int)) = false := by simp; omega
        go_wp2_with fail
        go_quiet (fail)
        go_wp2_with fail
        go_roundw
        case rel =>
          refine ⟨i + 1, by omega, by go_num, k4.drewN nq, ?_, bel_drewN hW nq⟩
          rw [HT.out, ← HMX.out, show max mx p.d = mx by omega, HMX.out]
          exact k6.drewN nq
        case measure => simp [intOf]; omega
    · obtain rfl : i = M.length := by omega
      rw [List.take_length] at rd6
      go_wp2_with fail
      exact bodyPost_ret (v := .tuple #[.agg #[.int .i64 ((mxd M : Int) + 1), .int .i64 7, .bool false], .bool true]) (by simp [results, Try.results30, go_sem, rd4]) rfl ⟨rfl, bel_set (bel_set (bel_set hW (by omega) _) (by omega) _) (by omega) _⟩
end Go.Proofs.Ytifmfkofadhieaa

/-
  Addresses and the groups of bands: adding and taking away. Conditions: those of each theorem.
-/
import Derived.Test.YtdionganlmnlkaaRows
import Derived.Test.YtdionganlmnlkaaGp
import Derived.WalkSpells
import Derived.WalkLawsBesides
import Derived.Outline
import Derived.Lib.Hide
import Derived.DeepKeys4
import Derived.Sort.Grow
import Derived.Deep.DeepCutAuto
import Derived.Deep.CutBlock
namespace Go.Proofs.Ytdionganlmnlkaa
open Go.ChangeShapes Go.WideShapes Go.ChangeAt Go.RowKit Go.Deep

def mayB (r c : Int) : Bool := decide (1 ≤ r ∧ r ≤ 4096 ∧ 1 ≤ c ∧ c ≤ 256)
theorem mayB_true {r c : Int} (h : mayB r c = true) : 1 ≤ r ∧ r ≤ 4096 ∧ 1 ≤ c ∧ c ≤ 256 := by simpa [mayB] using h
theorem mayB_false {r c : Int} (h : mayB r c = false) : ¬ (1 ≤ r ∧ r ≤ 4096 ∧ 1 ≤ c ∧ c ≤ 256) := by simpa [mayB] using h

theorem may_any (r c : Int) (w : World) :
    Calls Try.prog 21 #[.agg #[.int .i64 r, .int .i64 c]] w fun e w' => e = .returned (.bool (mayB r c)) ∧ Below w.heap.size w w' := by
  by_cases h1 : 1 ≤ r
  · by_cases h2 : r ≤ 4096
    · by_cases h3 : 1 ≤ c
      · by_cases h4 : c ≤ 256
        · have h : mayB r c = true := by simp [mayB]; omega
          go_enter Try.func21, Try.ntmps21
          go_wp2
          go_ret
          exact ⟨by first | rfl | (rw [h]; rfl), (Below.refl _ _).alloc (Nat.le_refl _) _⟩
        · have h : mayB r c = false := by simp [mayB]; omega
          go_enter Try.func21, Try.ntmps21
          go_wp2
          go_ret
          exact ⟨by first | rfl | (rw [h]; rfl), (Below.refl _ _).alloc (Nat.le_refl _) _⟩
      · have h : mayB r c = false := by simp [mayB]; omega
        go_enter Try.func21, Try.ntmps21
        go_wp2
        go_ret
        exact ⟨by first | rfl | (rw [h]; rfl), (Below.refl _ _).alloc (Nat.le_refl _) _⟩
    · have h : mayB r c = false := by simp [mayB]; omega
      go_enter Try.func21, Try.ntmps21
      go_wp2
      go_ret
      exact ⟨by first | rfl | (rw [h]; rfl), (Below.refl _ _).alloc (Nat.le_refl _) _⟩
  · have h : mayB r c = false := by simp [mayB]; omega
    go_enter Try.func21, Try.ntmps21
    go_wp2
    go_ret
    exact ⟨by first | rfl | (rw [h]; rfl), (Below.refl _ _).alloc (Nat.le_refl _) _⟩

theorem within_any (n lo hi : Int) (w : World) :
    Calls Try.prog 46 #[.int .i64 n, .int .i64 lo, .int .i64 hi] w fun e w' => e = .returned (.bool (decide (lo ≤ n ∧ n ≤ hi))) ∧ w = w' := by
  obtain ⟨B, hB⟩ : ∃ B, B = decide (lo ≤ n ∧ n ≤ hi) := ⟨_, rfl⟩
  rw [← hB]
  by_cases h1 : lo ≤ n
  · by_cases h2 : n ≤ hi
    · have h : B = true := by rw [hB]; simp; omega
      clear hB
      subst h
      go_enter Try.func46, Try.ntmps46
      go_wp2
      go_ret
      exact ⟨rfl, rfl⟩
    · have h : B = false := by rw [hB]; simp; omega
      clear hB
      subst h
      go_enter Try.func46, Try.ntmps46
      go_wp2
      go_ret
      exact ⟨rfl, rfl⟩
  · have h : B = false := by rw [hB]; simp; omega
    clear hB
    subst h
    go_enter Try.func46, Try.ntmps46
    go_wp2
    go_ret
    exact ⟨rfl, rfl⟩

theorem rmay_any (r c : Int) (w : World) :
    Calls Try.prog 41 #[.agg #[.int .i64 r, .int .i64 c]] w fun e w' => e = .returned (.bool (mayB r c)) ∧ Below w.heap.size w w' := by
  by_cases h1 : 1 ≤ r ∧ r ≤ 4096
  · by_cases h2 : 1 ≤ c ∧ c ≤ 256
    · have h : mayB r c = true := by simp [mayB]; omega
      have e1 : decide (1 ≤ r ∧ r ≤ 4096) = true := by simpa using h1
      have e2 : decide (1 ≤ c ∧ c ≤ 256) = true := by simpa using h2
      rw [h]
      go_enter Try.func41, Try.ntmps41
      go_wp2_with fail
      refine (within_any _ _ _ _).mono ?_
      rintro e w' ⟨rfl, rfl⟩
      go_wp2_with fail
      refine (within_any _ _ _ _).mono ?_
      rintro e w' ⟨rfl, rfl⟩
      go_wp2_with fail
      go_ret
      exact ⟨rfl, (Below.refl _ _).alloc (Nat.le_refl _) _⟩
    · have h : mayB r c = false := by simp [mayB]; omega
      have e1 : decide (1 ≤ r ∧ r ≤ 4096) = true := by simpa using h1
      have e2 : decide (1 ≤ c ∧ c ≤ 256) = false := by simpa using h2
      rw [h]
      go_enter Try.func41, Try.ntmps41
      go_wp2_with fail
      refine (within_any _ _ _ _).mono ?_
      rintro e w' ⟨rfl, rfl⟩
      go_wp2_with fail
      refine (within_any _ _ _ _).mono ?_
      rintro e w' ⟨rfl, rfl⟩
      go_wp2_with fail
      go_ret
      exact ⟨rfl, (Below.refl _ _).alloc (Nat.le_refl _) _⟩
  · have h : mayB r c = false := by simp [mayB]; omega
    have e1 : decide (1 ≤ r ∧ r ≤ 4096) = false := by simpa using h1
    rw [h]
    go_enter Try.func41, Try.ntmps41
    go_wp2_with fail
    refine (within_any _ _ _ _).mono ?_
    rintro e w' ⟨rfl, rfl⟩
    go_wp2_with fail
    go_ret
    exact ⟨rfl, (Below.refl _ _).alloc (Nat.le_refl _) _⟩

/-- May a rectangle be? -/
def mayR (t l b r : Int) : Bool := mayB t l && mayB b r && decide (t ≤ b) && decide (l ≤ r)
theorem ret_bool {a b : Bool} (h : a = b) : Ending.returned (.bool a) = Ending.returned (.bool b) := by rw [h]

theorem first_any (t l b r : Int) (w : World) :
    Calls Try.prog 54 #[.agg #[.int .i64 t, .int .i64 l, .int .i64 b, .int .i64 r]] w fun e w' => e = .returned (.agg #[.int .i64 t, .int .i64 l]) ∧ Below w.heap.size w w' := by
  go_enter Try.func54, Try.ntmps54
  go_wp2_with fail
  exact bodyPost_ret (v := .agg #[.int .i64 t, .int .i64 l]) (by simp [results, Try.results54, go_sem]) rfl ⟨rfl, bel_alloc (bel_alloc (bel_refl w) _) _⟩

theorem last_any (t l b r : Int) (w : World) :
    Calls Try.prog 55 #[.agg #[.int .i64 t, .int .i64 l, .int .i64 b, .int .i64 r]] w fun e w' => e = .returned (.agg #[.int .i64 b, .int .i64 r]) ∧ Below w.heap.size w w' := by
  go_enter Try.func55, Try.ntmps55
  go_wp2_with fail
  exact bodyPost_ret (v := .agg #[.int .i64 b, .int .i64 r]) (by simp [results, Try.results55, go_sem]) rfl ⟨rfl, bel_alloc (bel_alloc (bel_refl w) _) _⟩

theorem mayrect_any (t l b r : Int) (w : World) :
    Calls Try.prog 39 #[.agg #[.int .i64 t, .int .i64 l, .int .i64 b, .int .i64 r]] w fun e w' => e = .returned (.bool (mayR t l b r)) ∧ Below w.heap.size w w' := by
  have hw := bel_alloc (bel_refl w) (.cells #[.int .i64 t, .int .i64 l, .int .i64 b, .int .i64 r] 51)
  have k1 := Blk.new w rfl 51 #[.int .i64 t, .int .i64 l, .int .i64 b, .int .i64 r]
  obtain ⟨m1, hm1⟩ : ∃ m, mayB t l = m := ⟨_, rfl⟩
  obtain ⟨m2, hm2⟩ : ∃ m, mayB b r = m := ⟨_, rfl⟩
  obtain ⟨R, hR⟩ : ∃ R, R = (m1 && m2 && decide (t ≤ b) && decide (l ≤ r)) := ⟨_, rfl⟩
  have e : mayR t l b r = R := by rw [hR, ← hm1, ← hm2]; rfl
  rw [e]
  have HR := Lib.hid hR
  have H1 := Lib.hid hm1
  have H2 := Lib.hid hm2
  clear e hR hm1 hm2
  go_enter Try.func39, Try.ntmps39
  go_wp2_with fail
  refine (first_any t l b r _).mono ?_
  rintro e w1 ⟨rfl, hb1⟩
  replace k1 := k1.below hb1
  replace hw := bel_call hw hb1
  go_wp2_with fail
  refine (may_any t l _).mono ?_
  rintro e w2 ⟨rfl, hb2⟩
  rw [H1.out]
  replace k1 := k1.below hb2
  replace hw := bel_call hw hb2
  clear hb1 hb2
  have rd1 := k1.rd
  cases m1 with
  | false =>
    go_wp2_with fail
    go_ret
    exact ⟨ret_bool (by rw [HR.out]; simp), hw⟩
  | true =>
    go_wp2_with fail
    refine (last_any t l b r _).mono ?_
    rintro e w3 ⟨rfl, hb3⟩
    replace k1 := k1.below hb3
    replace hw := bel_call hw hb3
    clear rd1
    go_wp2_with fail
    refine (may_any b r _).mono ?_
    rintro e w4 ⟨rfl, hb4⟩
    rw [H2.out]
    replace k1 := k1.below hb4
    replace hw := bel_call hw hb4
    have rd1 := k1.rd
    clear hb3 hb4
    cases m2 with
    | false =>
      go_wp2_with fail
      go_ret
      exact ⟨ret_bool (by rw [HR.out]; simp), hw⟩
    | true =>
      go_wp2_with fail
      all_goals
        go_ret
        exact ⟨ret_bool (by rw [HR.out]; first | (simp_all; done) | (simp_all; omega)), hw⟩

theorem rmayrect_any (t l b r : Int) (w : World) :
    Calls Try.prog 56 #[.agg #[.int .i64 t, .int .i64 l, .int .i64 b, .int .i64 r]] w fun e w' => e = .returned (.bool (mayR t l b r)) ∧ Below w.heap.size w w' := by
  have hw := bel_alloc (bel_refl w) (.cells #[.int .i64 t, .int .i64 l, .int .i64 b, .int .i64 r] 51)
  have k1 := Blk.new w rfl 51 #[.int .i64 t, .int .i64 l, .int .i64 b, .int .i64 r]
  obtain ⟨m1, hm1⟩ : ∃ m, mayB t l = m := ⟨_, rfl⟩
  obtain ⟨m2, hm2⟩ : ∃ m, mayB b r = m := ⟨_, rfl⟩
  obtain ⟨R, hR⟩ : ∃ R, R = (m1 && m2 && decide (t ≤ b) && decide (l ≤ r)) := ⟨_, rfl⟩
  have e : mayR t l b r = R := by rw [hR, ← hm1, ← hm2]; rfl
  rw [e]
  have HR := Lib.hid hR
  have H1 := Lib.hid hm1
  have H2 := Lib.hid hm2
  clear e hR hm1 hm2
  go_enter Try.func56, Try.ntmps56
  go_wp2_with fail
  refine (rmay_any t l _).mono ?_
  rintro e w2 ⟨rfl, hb2⟩
  rw [H1.out]
  replace k1 := k1.below hb2
  replace hw := bel_call hw hb2
  clear hb2
  have rd1 := k1.rd
  go_wp2_with fail
  refine (rmay_any b r _).mono ?_
  rintro e w4 ⟨rfl, hb4⟩
  rw [H2.out]
  replace k1 := k1.below hb4
  replace hw := bel_call hw hb4
  replace rd1 := k1.rd
  clear hb4
  cases m1 with
  | false =>
    go_wp2_with fail
    go_ret
    exact ⟨ret_bool (by rw [HR.out]; simp), hw⟩
  | true =>
    cases m2 with
    | false =>
      go_wp2_with fail
      go_ret
      exact ⟨ret_bool (by rw [HR.out]; simp), hw⟩
    | true =>
      go_wp2_with fail
      all_goals
        go_ret
        exact ⟨ret_bool (by rw [HR.out]; first | (simp_all; done) | (simp_all; omega)), hw⟩
end Go.Proofs.Ytdionganlmnlkaa
namespace Go.Proofs.Ytdionganlmnlkaa
open Go.ChangeShapes Go.WideShapes Go.ChangeAt Go.RowKit Go.Deep

def inB (t l b r x y : Int) : Bool := decide (t ≤ x ∧ x ≤ b) && decide (l ≤ y ∧ y ≤ r)
theorem inB_true {t l b r x y : Int} (h : inB t l b r x y = true) : t ≤ x ∧ x ≤ b ∧ l ≤ y ∧ y ≤ r := by
  simp [inB] at h
  omega
theorem inB_mk {t l b r x y : Int} (h : t ≤ x ∧ x ≤ b ∧ l ≤ y ∧ y ≤ r) : inB t l b r x y = true := by
  simp [inB]
  omega
theorem rin_any (t l b r x y : Int) (w : World) :
    Calls Try.prog 31 #[.agg #[.int .i64 t, .int .i64 l, .int .i64 b, .int .i64 r], .agg #[.int .i64 x, .int .i64 y]] w fun e w' => e = .returned (.bool (inB t l b r x y)) ∧ Below w.heap.size w w' := by
  cases e1 : decide (t ≤ x ∧ x ≤ b) with
  | true =>
    unfold inB
    rw [e1]
    go_enter Try.func31, Try.ntmps31
    go_wp2_with fail
    refine (within_any _ _ _ _).mono ?_
    rintro e w' ⟨rfl, rfl⟩
    go_wp2_with fail
    refine (within_any _ _ _ _).mono ?_
    rintro e w' ⟨rfl, rfl⟩
    go_wp2_with fail
    go_ret
    exact ⟨by simp, bel_alloc (bel_alloc (bel_refl w) _) _⟩
  | false =>
    unfold inB
    rw [e1]
    go_enter Try.func31, Try.ntmps31
    go_wp2_with fail
    refine (within_any _ _ _ _).mono ?_
    rintro e w' ⟨rfl, rfl⟩
    go_wp2_with fail
    go_ret
    exact ⟨rfl, bel_alloc (bel_alloc (bel_refl w) _) _⟩

def befB (ax ay x y : Int) : Bool := decide (ax < x ∨ (ax = x ∧ ay < y))
theorem rbefore_any (ax ay x y : Int) (w : World) :
    Calls Try.prog 58 #[.agg #[.int .i64 ax, .int .i64 ay], .agg #[.int .i64 x, .int .i64 y]] w fun e w' => e = .returned (.bool (befB ax ay x y)) ∧ Below w.heap.size w w' := by
  obtain ⟨B, hB⟩ : ∃ B, B = befB ax ay x y := ⟨_, rfl⟩
  rw [← hB]
  unfold befB at hB
  by_cases h1 : ax < x
  · have h : B = true := by rw [hB]; simp; omega
    clear hB
    subst h
    go_enter Try.func58, Try.ntmps58
    go_wp2
    go_ret
    exact ⟨rfl, bel_alloc (bel_alloc (bel_refl w) _) _⟩
  · by_cases h2 : ax = x
    · by_cases h3 : ay < y
      · have h : B = true := by rw [hB]; simp; omega
        clear hB
        subst h h2
        go_enter Try.func58, Try.ntmps58
        go_wp2
        go_ret
        exact ⟨rfl, bel_alloc (bel_alloc (bel_refl w) _) _⟩
      · have h : B = false := by rw [hB]; simp; omega
        clear hB
        subst h h2
        go_enter Try.func58, Try.ntmps58
        go_wp2
        go_ret
        exact ⟨rfl, bel_alloc (bel_alloc (bel_refl w) _) _⟩
    · have h : B = false := by rw [hB]; simp; omega
      have h2' : (ax == x) = false := by simpa using h2
      clear hB
      subst h
      go_enter Try.func58, Try.ntmps58
      go_wp2
      go_ret
      exact ⟨rfl, bel_alloc (bel_alloc (bel_refl w) _) _⟩


theorem pin_any (t l b r x y : Int) (w : World) :
    Calls Try.prog 59 #[.agg #[.int .i64 t, .int .i64 l, .int .i64 b, .int .i64 r], .agg #[.int .i64 x, .int .i64 y]] w fun e w' => e = .returned (.bool (inB t l b r x y)) ∧ Below w.heap.size w w' := by
  obtain ⟨B, hB⟩ : ∃ B, B = inB t l b r x y := ⟨_, rfl⟩
  rw [← hB]
  unfold inB at hB
  by_cases h1 : t ≤ x
  case neg =>
    have h : B = false := by rw [hB]; simp; omega
    clear hB
    subst h
    have d1 : decide (t ≤ x) = false := by simp; omega
    go_enter Try.func59, Try.ntmps59
    go_wp2_with fail
    go_ret
    exact ⟨by simp, bel_alloc (bel_alloc (bel_refl w) _) _⟩
  have d1 : decide (t ≤ x) = true := by simp; omega
  by_cases h2 : x ≤ b
  case neg =>
    have h : B = false := by rw [hB]; simp; omega
    clear hB
    subst h
    have d2 : decide (x ≤ b) = false := by simp; omega
    go_enter Try.func59, Try.ntmps59
    go_wp2_with fail
    go_ret
    exact ⟨by simp, bel_alloc (bel_alloc (bel_refl w) _) _⟩
  have d2 : decide (x ≤ b) = true := by simp; omega
  by_cases h3 : l ≤ y
  case neg =>
    have h : B = false := by rw [hB]; simp; omega
    clear hB
    subst h
    have d3 : decide (l ≤ y) = false := by simp; omega
    go_enter Try.func59, Try.ntmps59
    go_wp2_with fail
    go_ret
    exact ⟨by simp, bel_alloc (bel_alloc (bel_refl w) _) _⟩
  have d3 : decide (l ≤ y) = true := by simp; omega
  by_cases h4 : y ≤ r
  · have h : B = true := by rw [hB]; simp; omega
    clear hB
    subst h
    have d4 : decide (y ≤ r) = true := by simp; omega
    go_enter Try.func59, Try.ntmps59
    go_wp2_with fail
    go_ret
    exact ⟨by simp, bel_alloc (bel_alloc (bel_refl w) _) _⟩
  · have h : B = false := by rw [hB]; simp; omega
    clear hB
    subst h
    have d4 : decide (y ≤ r) = false := by simp; omega
    go_enter Try.func59, Try.ntmps59
    go_wp2_with fail
    go_ret
    exact ⟨by simp, bel_alloc (bel_alloc (bel_refl w) _) _⟩
end Go.Proofs.Ytdionganlmnlkaa
namespace Go.Proofs.Ytdionganlmnlkaa
open Go.Deep

/-- A rectangle and the cell that has it. -/
structure Pr where
  row : Int
  col : Int
  t : Int
  l : Int
  b : Int
  r : Int
  deriving DecidableEq
def KE : Knd Pr where
  t := 55
  size := 7
  bytes := 56
  enc x := [.int .i64 x.row, .int .i64 x.col, .bool true, .int .i64 x.t, .int .i64 x.l, .int .i64 x.b, .int .i64 x.r]
  len _ := rfl
  one x u hu := by
    simp at hu
    rcases hu with rfl | rfl | rfl | rfl | rfl | rfl | rfl <;> rfl
  pos := by omega
theorem info_ke : (Try.prog.info? KE.t).map (fun i => (i.zero, i.size, i.bytes)) = some (some (.agg #[.int .i64 0, .int .i64 0, .bool false, .int .i64 0, .int .i64 0, .int .i64 0, .int .i64 0]), KE.size, KE.bytes) := by kernel_rfl
/-- A cell. -/
structure Cl where
  row : Int
  col : Int
  deriving DecidableEq
def KC : Knd Cl where
  t := 32
  size := 2
  bytes := 16
  enc x := [.int .i64 x.row, .int .i64 x.col]
  len _ := rfl
  one x u hu := by
    simp at hu
    rcases hu with rfl | rfl <;> rfl
  pos := by omega
theorem info_kc : (Try.prog.info? KC.t).map (fun i => (i.zero, i.size, i.bytes)) = some (some (.agg #[.int .i64 0, .int .i64 0]), KC.size, KC.bytes) := by kernel_rfl

/-- Does one stand ahead? -/
def ltP (x y : Pr) : Prop := x.row < y.row ∨ x.row = y.row ∧ (x.col < y.col ∨ x.col = y.col ∧ (x.t < y.t ∨ x.t = y.t ∧ (x.l < y.l ∨ x.l = y.l ∧ (x.b < y.b ∨ x.b = y.b ∧ x.r < y.r))))
instance (x y : Pr) : Decidable (ltP x y) := by unfold ltP; infer_instance
theorem ltP_irrefl (x : Pr) : ¬ ltP x x := by unfold ltP; omega
theorem ltP_trans {x y z : Pr} (h : ltP x y) (k : ltP y z) : ltP x z := by unfold ltP at *; omega
theorem ltP_total (x y : Pr) : ltP x y ∨ x = y ∨ ltP y x := by
  obtain ⟨a, b, c, d, e, f⟩ := x
  obtain ⟨a', b', c', d', e', f'⟩ := y
  simp only [ltP, Pr.mk.injEq]
  omega
def SrtP (L : List Pr) : Prop := L.Pairwise ltP
/-- How many stand ahead. -/
def cbP (p : Pr) : List Pr → Nat
  | [] => 0
  | x :: l => if ltP x p then cbP p l + 1 else 0
theorem cbP_le (p : Pr) : ∀ l, cbP p l ≤ l.length
  | [] => Nat.le_refl _
  | x :: l => by
    have := cbP_le p l
    unfold cbP
    split
    · simp; omega
    · omega
theorem cbP_drop (p : Pr) {l : List Pr} {k : Nat} {x : Pr} (h : l[k]? = some x) : cbP p (l.drop k) = if ltP x p then cbP p (l.drop (k + 1)) + 1 else 0 := by
  obtain ⟨hk, e⟩ := List.getElem?_eq_some_iff.1 h
  rw [List.drop_eq_getElem_cons hk, e]
  rfl
def insP (p : Pr) (l : List Pr) : List Pr := l.take (cbP p l) ++ [p] ++ l.drop (cbP p l)
theorem cbP_lt (p : Pr) : ∀ (l : List Pr) (i : Nat) (x : Pr), l[i]? = some x → i < cbP p l → ltP x p
  | [], i, x, h, _ => by simp at h
  | y :: l, i, x, h, hi => by
    unfold cbP at hi
    split at hi
    · rename_i hy
      cases i with
      | zero =>
        simp at h
        rw [← h]; exact hy
      | succ i => exact cbP_lt p l i x (by simpa using h) (by omega)
    · omega
theorem cbP_at (p : Pr) : ∀ (l : List Pr) (x : Pr), l[cbP p l]? = some x → ¬ ltP x p
  | [], x, h => by simp at h
  | y :: l, x, h => by
    unfold cbP at h
    split at h
    · exact cbP_at p l x (by simpa using h)
    · rename_i hy
      simp at h
      rw [← h]; exact hy
theorem srt_get {L : List Pr} (h : SrtP L) {i j : Nat} {x y : Pr} (hi : L[i]? = some x) (hj : L[j]? = some y) (hij : i < j) : ltP x y := by
  obtain ⟨h1, rfl⟩ := List.getElem?_eq_some_iff.1 hi
  obtain ⟨h2, rfl⟩ := List.getElem?_eq_some_iff.1 hj
  exact List.pairwise_iff_getElem.1 h i j h1 h2 hij
/-- It is there just if it stands at its place. -/
theorem mem_at {L : List Pr} (h : SrtP L) (p : Pr) : p ∈ L ↔ L[cbP p L]? = some p := by
  refine ⟨fun hm => ?_, fun h => List.mem_of_getElem? h⟩
  obtain ⟨i, hi⟩ := List.getElem?_of_mem hm
  have hil := (List.getElem?_eq_some_iff.1 hi).1
  rcases Nat.lt_trichotomy i (cbP p L) with hlt | rfl | hgt
  · exact absurd (cbP_lt p L i p hi hlt) (ltP_irrefl p)
  · exact hi
  · have hx := List.getElem?_eq_getElem (show cbP p L < L.length by omega)
    have h1 := srt_get h hx hi hgt
    exact absurd h1 (cbP_at p L _ hx)
theorem mem_insP (p x : Pr) (L : List Pr) : x ∈ insP p L ↔ x = p ∨ x ∈ L := by
  unfold insP
  rw [List.mem_append, List.mem_append, List.mem_singleton]
  constructor
  · rintro ((h | h) | h)
    · exact .inr (List.mem_of_mem_take h)
    · exact .inl h
    · exact .inr (List.mem_of_mem_drop h)
  · rintro (h | h)
    · exact .inl (.inr h)
    · rw [← List.take_append_drop (cbP p L) L, List.mem_append] at h
      rcases h with h | h
      · exact .inl (.inl h)
      · exact .inr h
theorem srt_insP {p : Pr} {L : List Pr} (h : SrtP L) (hp : p ∉ L) : SrtP (insP p L) := by
  unfold SrtP insP
  have h0 : (L.take (cbP p L) ++ L.drop (cbP p L)).Pairwise ltP := by rw [List.take_append_drop]; exact h
  rw [List.pairwise_append] at h0
  obtain ⟨h1, h2, h3⟩ := h0
  have ha : ∀ a, a ∈ L.take (cbP p L) → ltP a p := fun a ha => by
    obtain ⟨i, hi⟩ := List.getElem?_of_mem ha
    rw [List.getElem?_take] at hi
    split at hi
    · rename_i hlt
      exact cbP_lt p L i a hi hlt
    · cases hi
  have hb : ∀ b, b ∈ L.drop (cbP p L) → ltP p b := fun b hb => by
    obtain ⟨i, hi⟩ := List.getElem?_of_mem hb
    rw [List.getElem?_drop] at hi
    have hil := (List.getElem?_eq_some_iff.1 hi).1
    have hx := List.getElem?_eq_getElem (show cbP p L < L.length by omega)
    have hn := cbP_at p L _ hx
    have hpx : ltP p L[cbP p L] := by
      rcases ltP_total L[cbP p L] p with h | h | h
      · exact absurd h hn
      · exact absurd (h ▸ List.mem_of_getElem? hx) hp
      · exact h
    by_cases e : i = 0
    · subst e
      rw [Nat.add_zero, hx] at hi
      injection hi with hi
      rw [← hi]; exact hpx
    · exact ltP_trans hpx (srt_get h hx hi (by omega))
  rw [List.pairwise_append, List.pairwise_append]
  refine ⟨⟨h1, List.pairwise_singleton _ _, fun a ha' b hb' => ?_⟩, h2, fun a ha' b hb' => ?_⟩
  · rw [List.mem_singleton.1 hb']; exact ha a ha'
  · rcases List.mem_append.1 ha' with h | h
    · exact h3 a h b hb'
    · rw [List.mem_singleton.1 h]; exact hb b hb'
/-- Two lists in their order with the same pairs are one. -/
theorem srt_ext : ∀ {L M : List Pr}, SrtP L → SrtP M → (∀ x, x ∈ L ↔ x ∈ M) → L = M
  | [], [], _, _, _ => rfl
  | [], y :: M, _, _, h => absurd ((h y).2 (by simp)) (by simp)
  | x :: L, [], _, _, h => absurd ((h x).1 (by simp)) (by simp)
  | x :: L, y :: M, hL, hM, h => by
    have h1 := List.pairwise_cons.1 hL
    have h2 := List.pairwise_cons.1 hM
    have e : x = y := by
      rcases List.mem_cons.1 ((h x).1 (by simp)) with e | hx
      · exact e
      · rcases List.mem_cons.1 ((h y).2 (by simp)) with e | hy
        · exact e.symm
        · exact absurd (ltP_trans (h1.1 y hy) (h2.1 x hx)) (ltP_irrefl x)
    subst e
    rw [srt_ext h1.2 h2.2 fun z => ?_]
    constructor
    · intro hz
      rcases List.mem_cons.1 ((h z).1 (by simp [hz])) with rfl | hz'
      · exact absurd (h1.1 z hz) (ltP_irrefl z)
      · exact hz'
    · intro hz
      rcases List.mem_cons.1 ((h z).2 (by simp [hz])) with rfl | hz'
      · exact absurd (h2.1 z hz) (ltP_irrefl z)
      · exact hz'
theorem srt_erase {p : Pr} {L : List Pr} (h : SrtP L) : SrtP (L.erase p) := List.Pairwise.sublist List.erase_sublist h
end Go.Proofs.Ytdionganlmnlkaa
namespace Go.Proofs.Ytdionganlmnlkaa
open Go.ChangeShapes Go.WideShapes Go.ChangeAt Go.RowKit Go.Deep

def pairV (p : Pr) : Value := .agg #[.int .i64 p.t, .int .i64 p.l, .int .i64 p.b, .int .i64 p.r, .int .i64 p.row, .int .i64 p.col]
theorem pairV_inj (x y : Pr) (h : pairV x = pairV y) : x = y := by
  obtain ⟨a, b, c, d, e, f⟩ := x
  obtain ⟨a', b', c', d', e', f'⟩ := y
  simp [pairV] at h
  obtain ⟨rfl, rfl, rfl, rfl, rfl, rfl⟩ := h
  rfl
def i64P (z : Int) : Prop := -9223372036854775808 ≤ z ∧ z ≤ 9223372036854775807
def rngP (p : Pr) : Prop := (i64P p.t ∧ i64P p.l ∧ i64P p.b) ∧ i64P p.r ∧ i64P p.row ∧ i64P p.col
theorem wf_i64 {z : Int} (h : i64P z) : (Lit.int .i64 z).wf = true := by
  unfold i64P at h
  simpa [Lit.wf, IntKind.min, IntKind.max, IntKind.signed, IntKind.bits] using h
theorem law_pair : Maps.Keyed Try.prog 91 := Maps.Keyed.of_law (deep_law_laid (by kernel_rfl) (m := 3) (by omega) (of_decide_eq_true (by kernel_rfl)) (by kernel_rfl) (by rw [Try.underlying91]))
theorem law_int : Maps.Keyed Try.prog 3 := Maps.int_keyed Try.underlying3
theorem key_int {z : Int} (h : i64P z) : keyOf Try.prog 3 (.int .i64 z) = some (.int .i64 z) := Maps.keyOf_int_mk Try.underlying3 (wf_i64 h)
theorem key_pair (x : Pr) (h : rngP x) : ∃ kl, keyOf Try.prog 91 (pairV x) = some kl := by
  obtain ⟨⟨h1, h2, h3⟩, h4, h5, h6⟩ := h
  have w1 := wf_i64 h1
  have w2 := wf_i64 h2
  have w3 := wf_i64 h3
  have w4 := wf_i64 h4
  have w5 := wf_i64 h5
  have w6 := wf_i64 h6
  have hk : Try.prog.keyType 91 = true := by kernel_rfl
  have hc : Try.prog.cellsOf 91 = 6 := by kernel_rfl
  have hc2 : Try.prog.cellsOf 51 = 4 := by kernel_rfl
  have hc3 : Try.prog.cellsOf 3 = 1 := by kernel_rfl
  have hc4 : Try.prog.cellsOf 32 = 2 := by kernel_rfl
  have hf : (pairV x).formed Try.prog 91 = true := by simp [pairV, Value.formed, Try.underlying91, hc]
  obtain ⟨n, hn⟩ : ∃ n, Try.prog.types.size + 1 = n + 3 := ⟨Try.prog.types.size - 2, by
    have : (3 : Nat) ≤ Try.prog.types.size := of_decide_eq_true (by kernel_rfl)
    omega⟩
  have hl : Try.prog.keyLits (n + 3) 91 (pairV x).cells.toList = some [.int .i64 x.t, .int .i64 x.l, .int .i64 x.b, .int .i64 x.r, .int .i64 x.row, .int .i64 x.col] := by
    simp [Program.keyLits, Try.underlying91, Try.underlying51, Try.underlying32, Try.underlying3, hc, hc2, hc3, hc4, pairV, Value.cells, w1, w2, w3, w4, w5, w6]
    rw [if_pos (by
      intro i hi
      match i, hi with
      | 0, _ => simp
      | 1, _ => simp
      | 2, _ => simp
      | 3, _ => simp), if_pos (by
      intro i hi
      match i, hi with
      | 0, _ => simp
      | 1, _ => simp)]
    rfl
  refine ⟨.string (keyBytes [.int .i64 x.t, .int .i64 x.l, .int .i64 x.b, .int .i64 x.r, .int .i64 x.row, .int .i64 x.col]), ?_⟩
  unfold keyOf
  rw [Try.underlying91]
  simp only [hk, hf, Bool.and_self, if_true]
  rw [hn, hl]
  rfl
theorem zero_unit (w : World) : (zeroValue 79).run Try.prog w = .ok (.agg #[]) w := by kernel_rfl
theorem zero_map (w : World) : (zeroValue 93).run Try.prog w = .ok (.map none) w := by kernel_rfl

/-- How a band's map reads in the map of bands: by its block. -/
def refE : Value → Option (DataW Unit × List MemPlace)
  | .map (some g) => some (.lit (.int .i64 g), [])
  | .map none => some (.nil, [])
  | _ => none
def refD : Option Nat → DataW Unit
  | some g => .lit (.int .i64 g)
  | none => .nil
theorem refE_inv {v : Value} {F : Option Nat} {ps : List MemPlace} (h : refE v = some (refD F, ps)) : v = .map F := by
  unfold refE at h
  split at h
  · rename_i g
    cases F with
    | none => simp [refD] at h
    | some g' =>
      simp [refD] at h
      have e : g = g' := by omega
      rw [e]
  · cases F with
    | none => rfl
    | some g' => simp [refD] at h
  · cases h

/-- An own set of pairs. -/
abbrev PSet (w : World) (b n : Nat) (L : List Pr) : Prop := MSet Try.prog 91 pairV rngP w b n L
/-- The map of bands: F tells each band's block, G what is in it. -/
structure BG (w : World) (mb nb n : Nat) (F : Int → Option Nat) (G : Int → List Pr) : Prop where
  band : ∃ D : DataW Unit, w.ownsMap Try.prog 3 refE mb nb D ∧ ∀ k, D.atKey (.int .i64 k) .nil = refD (F k)
  grp : ∀ k g, F k = some g → PSet w g n (G k)
  non : ∀ k, F k = none → G k = []
  inj : ∀ k k' g, F k = some g → F k' = some g → k = k'
  ne : ∀ k g, F k = some g → g ≠ mb

section
variable {w w' : World} {mb nb n : Nat} {F : Int → Option Nat} {G : Int → List Pr}
theorem BG.kept {row : Option Nat} (h : BG w mb nb n F G) (hg : w.grownBy w' row) (h1 : some mb ≠ row) (h2 : ∀ k g, F k = some g → some g ≠ row) : BG w' mb nb n F G := by
  obtain ⟨D, hD, hat⟩ := h.band
  exact ⟨⟨D, hD.kept hg h1, hat⟩, fun k g hk => (h.grp k g hk).kept hg (h2 k g hk), h.non, h.inj, h.ne⟩
theorem BG.below (h : BG w mb nb n F G) (hb : Below w.heap.size w w') : BG w' mb nb n F G := h.kept (row := none) (grown_of_below hb none) (by simp) (by simp)
theorem BG.ltm (h : BG w mb nb n F G) : mb < w.heap.size := by
  obtain ⟨D, hD, _⟩ := h.band
  exact hD.lt
theorem BG.ltg (h : BG w mb nb n F G) {k : Int} {g : Nat} (hk : F k = some g) : g < w.heap.size := (h.grp k g hk).lt
theorem BG.mono (h : BG w mb nb n F G) {nb' n' : Nat} (h1 : nb ≤ nb') (h2 : n ≤ n') : BG w mb nb' n' F G := by
  obtain ⟨D, hD, hat⟩ := h.band
  exact ⟨⟨D, hD.mono h1, hat⟩, fun k g hk => (h.grp k g hk).mono h2, h.non, h.inj, h.ne⟩
theorem BG.ext (h : BG w mb nb n F G) {G' : Int → List Pr} (e : ∀ k x, x ∈ G k ↔ x ∈ G' k) : BG w mb nb n F G' :=
  ⟨h.band, fun k g hk => (h.grp k g hk).ext (e k), fun k hk => by
    rw [List.eq_nil_iff_forall_not_mem]
    intro x hx
    rw [← e k, h.non k hk] at hx
    simp at hx, h.inj, h.ne⟩
/-- The look-up of a band. -/
theorem BG.look (h : BG w mb nb n F G) {k : Int} (hk : i64P k) : (Instr.lookup 94 (.map (some mb)) (.int .i64 k) false).run Try.prog w = .ok (.map (F k)) w := by
  obtain ⟨D, hD, hat⟩ := h.band
  obtain ⟨v, ps, hrun, hv⟩ := hD.lookup law_int Try.underlying94 (zero_map w) (zd := .nil) (zp := []) rfl (key_int hk)
  rw [hat k] at hv
  rw [hrun, refE_inv hv]
theorem BG.put (h : BG w mb nb n F G) {k : Int} {g : Nat} {p : Pr} (hF : F k = some g) (hw : w.grownBy w' (some g)) (hs : PSet w' g (n + 1) (p :: G k)) : BG w' mb nb (n + 1) F (fun q => if q = k then p :: G k else G q) := by
  have hm := h.ne k g hF
  obtain ⟨D, hD, hat⟩ := h.band
  refine ⟨⟨D, hD.kept hw (by simpa using hm.symm), hat⟩, fun q g' hq => ?_, fun q hq => ?_, h.inj, h.ne⟩
  · by_cases e : q = k
    · subst e
      rw [hF] at hq
      injection hq with hq
      subst hq
      rw [if_pos rfl]
      exact hs
    · rw [if_neg e]
      refine ((h.grp q g' hq).kept hw ?_).mono (Nat.le_succ n)
      intro he
      injection he with he
      subst he
      exact e (h.inj q k g' hq hF)
  · have e : q ≠ k := by
      rintro rfl
      rw [hF] at hq
      cases hq
    rw [if_neg e]
    exact h.non q hq
theorem BG.fresh (h : BG w mb nb n F G) {k : Int} (hk : i64P k) (hF : F k = none) {g : Nat} (hg : PSet w g n []) (hne : g ≠ mb) (hfr : ∀ q g', F q = some g' → g' ≠ g) (hnb : nb < maxLen) :
    ∃ w', (Instr.mapUpdate 94 (.map (some mb)) (.int .i64 k) (.map (some g))).run Try.prog w = .ok () w' ∧ BG w' mb (nb + 1) n (fun q => if q = k then some g else F q) G ∧ w.grownBy w' (some mb) := by
  obtain ⟨D, hD, hat⟩ := h.band
  obtain ⟨w', hrun, ho, hw⟩ := hD.update law_int Try.underlying94 hnb (key_int hk) (val := .map (some g)) (d := .lit (.int .i64 g)) (ps := []) rfl
  refine ⟨w', hrun, ⟨⟨_, ho, fun q => ?_⟩, fun q g' hq => ?_, fun q hq => ?_, fun q q' g' h1 h2 => ?_, fun q g' hq => ?_⟩, hw⟩
  · by_cases e : q = k
    · subst e
      rw [if_pos rfl, Maps.atKey_put_same hD.isMap (law_int.key (key_int hk))]
      rfl
    · rw [if_neg e, Maps.atKey_put_other (by intro e'; injection e' with _ e'; exact e e')]
      exact hat q
  · by_cases e : q = k
    · subst e
      rw [if_pos rfl] at hq
      injection hq with hq
      subst hq
      rw [h.non q hF]
      exact hg.kept hw (by simpa using hne)
    · rw [if_neg e] at hq
      exact (h.grp q g' hq).kept hw (by simpa using h.ne q g' hq)
  · by_cases e : q = k
    · rw [if_pos e] at hq
      cases hq
    · rw [if_neg e] at hq
      exact h.non q hq
  · by_cases e1 : q = k
    · by_cases e2 : q' = k
      · rw [e1, e2]
      · rw [if_pos e1] at h1
        rw [if_neg e2] at h2
        exact absurd (Option.some.inj h1).symm (hfr q' g' h2)
    · by_cases e2 : q' = k
      · rw [if_neg e1] at h1
        rw [if_pos e2] at h2
        exact absurd (Option.some.inj h2).symm (hfr q g' h1)
      · rw [if_neg e1] at h1
        rw [if_neg e2] at h2
        exact h.inj q q' g' h1 h2
  · by_cases e : q = k
    · rw [if_pos e] at hq
      injection hq with hq
      rw [← hq]
      exact hne
    · rw [if_neg e] at hq
      exact h.ne q g' hq
end

def okP (p : Pr) : Prop := mayR p.t p.l p.b p.r = true ∧ mayB p.row p.col = true
theorem okP_rng {p : Pr} (h : okP p) : (1 ≤ p.t ∧ p.t ≤ p.b ∧ p.b ≤ 4096) ∧ rngP p := by
  obtain ⟨h1, h2⟩ := h
  have h3 := mayB_true h2
  simp [mayR, mayB] at h1
  unfold rngP i64P
  refine ⟨by omega, ⟨⟨?_, ?_⟩, ⟨?_, ?_⟩, ⟨?_, ?_⟩⟩, ⟨?_, ?_⟩, ⟨?_, ?_⟩, ⟨?_, ?_⟩⟩ <;> omega
/-- Does a pair reach into a band? -/
def reach (k : Int) (p : Pr) : Bool := decide (p.t.tdiv 64 ≤ k ∧ k ≤ p.b.tdiv 64)
/-- What the program holds. -/
structure BIs (w : World) (bb ma mb nb n : Nat) (L : List Pr) (F : Int → Option Nat) : Prop where
  top : Blk w bb 96 #[.map (some ma), .map (some mb)]
  all : PSet w ma n L
  bg : BG w mb nb n F (fun k => L.filter (reach k))
  ne : ma ≠ mb
  nel : ∀ k g, F k = some g → g ≠ ma
  may : ∀ p, p ∈ L → okP p
end Go.Proofs.Ytdionganlmnlkaa
namespace Go.Proofs.Ytdionganlmnlkaa
open Go.ChangeShapes Go.WideShapes Go.ChangeAt Go.RowKit Go.Deep
attribute [local go_sem] Cls

/-- What New answers. -/
def NewIs (w : World) (e : Ending) (w' : World) : Prop := ∃ bb ma mb, e = .returned (.pointer (some ⟨bb, 0, none⟩)) ∧ BIs w' bb ma mb 0 0 [] (fun _ => none) ∧ (w.heap.size ≤ bb ∧ w.heap.size ≤ ma ∧ w.heap.size ≤ mb) ∧ Below w.heap.size w w'
theorem new_any (w : World) : Calls Try.prog 38 #[] w (NewIs w) := by
  have hmk := fun w => run_makeMap (P := Try.prog) 93 w
  have hmk2 := fun w => run_makeMap (P := Try.prog) 94 w
  go_enter Try.func38, Try.ntmps38
  go_wp2_with fail
  go_ret
  have h1 := ((MSet.made Try.prog 91 pairV rngP w).below (bel_alloc (bel_refl _) (.map #[] 0))).below (bel_alloc (bel_refl _) (.cells #[.map (some w.heap.size), .map (some (w.heap.size + 1))] 96))
  have h2 := (World.ownsMap_made (H := Unit) (w.alloc (.map #[] 0)) Try.prog 3 refE).alloc (.cells #[.map (some w.heap.size), .map (some (w.heap.size + 1))] 96)
  rw [show (w.alloc (.map #[] 0)).heap.size = w.heap.size + 1 by simp] at h2
  refine ⟨w.heap.size + 1 + 1, w.heap.size, w.heap.size + 1, rfl, ⟨Blk.new ((w.alloc (.map #[] 0)).alloc (.map #[] 0)) (by simp) 96 _, h1, ⟨⟨_, h2, fun k => rfl⟩, fun k g h => (by cases h), fun k _ => rfl, fun k k' g h => (by cases h), fun k g h => (by cases h)⟩, by omega, fun k g h => (by cases h), fun p hp => (by simp at hp)⟩, by omega, bel_alloc (bel_alloc (bel_alloc (bel_refl w) _) _) _⟩

section
variable {w w' : World} {bb ma mb nb n : Nat} {L : List Pr} {F : Int → Option Nat}
/-- The blocks that it owns. -/
def ownB (bb ma mb : Nat) (F : Int → Option Nat) (z : Nat) : Prop := z = bb ∨ z = ma ∨ z = mb ∨ ∃ k, F k = some z
theorem BIs.kept {row : Option Nat} (h : BIs w bb ma mb nb n L F) (hg : w.grownBy w' row) (hn : ∀ z, ownB bb ma mb F z → row ≠ some z) : BIs w' bb ma mb nb n L F :=
  ⟨h.top.grownX hg (fun e => hn bb (.inl rfl) e.symm), h.all.kept hg (fun e => hn ma (.inr (.inl rfl)) e.symm), h.bg.kept hg (fun e => hn mb (.inr (.inr (.inl rfl))) e.symm) (fun k g hk e => hn g (.inr (.inr (.inr ⟨k, hk⟩))) e.symm), h.ne, h.nel, h.may⟩
theorem BIs.below (h : BIs w bb ma mb nb n L F) (hb : Below w.heap.size w w') : BIs w' bb ma mb nb n L F := h.kept (row := none) (grown_of_below hb none) (by simp)
end

set_option maxHeartbeats 3200000 in
set_option maxRecDepth 100000 in
theorem add_no (bb ma mb nb n : Nat) (L : List Pr) (F : Int → Option Nat) (t l b r row col : Int) (w : World) (h : BIs w bb ma mb nb n L F) (hr : rngP ⟨row, col, t, l, b, r⟩) (hno : ⟨row, col, t, l, b, r⟩ ∈ L ∨ ¬ okP ⟨row, col, t, l, b, r⟩) :
    Calls Try.prog 26 #[.pointer (some ⟨bb, 0, none⟩), .agg #[.int .i64 t, .int .i64 l, .int .i64 b, .int .i64 r], .agg #[.int .i64 row, .int .i64 col]] w fun e w' => e = .returned (.bool false) ∧ Below w.heap.size w w' := by
  obtain ⟨kl, hkl⟩ := key_pair ⟨row, col, t, l, b, r⟩ hr
  go_enter Try.func26, Try.ntmps26
  go_wp2_with fail
  have hB3 := bel_alloc (bel_alloc (bel_alloc (bel_refl w) (.cells #[.int .i64 t, .int .i64 l, .int .i64 b, .int .i64 r] 51)) (.cells #[.int .i64 row, .int .i64 col] 32)) (.cells #[.int .i64 t, .int .i64 l, .int .i64 b, .int .i64 r, .int .i64 row, .int .i64 col] 91)
  have h3 := h.below hB3
  have k4 := ((Blk.new w rfl 51 #[.int .i64 t, .int .i64 l, .int .i64 b, .int .i64 r]).alloc (.cells #[.int .i64 row, .int .i64 col] 32)).alloc (.cells #[.int .i64 t, .int .i64 l, .int .i64 b, .int .i64 r, .int .i64 row, .int .i64 col] 91)
  have k5 := (Blk.new (w.alloc (.cells #[.int .i64 t, .int .i64 l, .int .i64 b, .int .i64 r] 51)) (g := w.heap.size + 1) (by simp) 32 #[.int .i64 row, .int .i64 col]).alloc (.cells #[.int .i64 t, .int .i64 l, .int .i64 b, .int .i64 r, .int .i64 row, .int .i64 col] 91)
  have k7 := Blk.new ((w.alloc (.cells #[.int .i64 t, .int .i64 l, .int .i64 b, .int .i64 r] 51)).alloc (.cells #[.int .i64 row, .int .i64 col] 32)) (g := w.heap.size + 1 + 1) (by simp) 91 #[.int .i64 t, .int .i64 l, .int .i64 b, .int .i64 r, .int .i64 row, .int .i64 col]
  generalize hwz : ((w.alloc (.cells #[.int .i64 t, .int .i64 l, .int .i64 b, .int .i64 r] 51)).alloc (.cells #[.int .i64 row, .int .i64 col] 32)).alloc (.cells #[.int .i64 t, .int .i64 l, .int .i64 b, .int .i64 r, .int .i64 row, .int .i64 col] 91) = w3 at hB3 h3 k4 k5 k7 ⊢
  clear hwz
  obtain ⟨q, hq⟩ : ∃ q, q = decide (⟨row, col, t, l, b, r⟩ ∈ L) := ⟨_, rfl⟩
  obtain ⟨S, hSS⟩ : ∃ S : World → Prop, S = fun w' => BIs w' bb ma mb nb n L F ∧ Blk w' (w.heap.size + 1 + 1) 91 #[.int .i64 t, .int .i64 l, .int .i64 b, .int .i64 r, .int .i64 row, .int .i64 col] := ⟨_, rfl⟩
  have q0 := fun x => (held_of hSS x).1.top.rd
  have q1 := fun x => (held_of hSS x).2.rd
  have q2 : ∀ x : Held S, (Instr.lookup 93 (.map (some ma)) (.agg #[.int .i64 t, .int .i64 l, .int .i64 b, .int .i64 r, .int .i64 row, .int .i64 col]) true).run Try.prog x.w = .ok (.tuple #[.agg #[], .bool q]) x.w := fun x => by
    rw [hq]
    exact (held_of hSS x).1.all.look_run law_pair Try.underlying93 zero_unit ⟨row, col, t, l, b, r⟩ hkl
  have HSS := Lib.hid hSS
  have HQ := Lib.hid hq
  clear hq
  have hS0 := held_in HSS.out ⟨h3.below (bel_drew (bel_refl w3)), k7.drew⟩
  haveI : Nonempty (Held S) := ⟨⟨_, hS0⟩⟩
  clear hSS
  refine wp_region_tree (S := S) 12 (.q 0 <| .q 1 <| .q 2 <| .q 3 <| .q 4 <| .q 5 <| .q 6 <| .q 7 <| .q 8 <| .a 9 <| .a 10 <| .q 11 <| .done) [] (by kernel_rfl) (by kernel_rfl) hS0 ?_
  repeat (refine tree_q (by rfl) (by rfl) (fun K hK => ?_); go_simp; refine hK _ ?_; clear hK K)
  refine tree_a (by rfl) (by rfl) (fun K hK => ?_)
  go_simp
  refine hK _ _ (held_in HSS.out ⟨h3.below (bel_drew (bel_alloc (bel_refl w3) (.cells #[] 79))), (k7.alloc (.cells #[] 79)).drew⟩) ?_
  clear hK K
  refine tree_a (by rfl) (by rfl) (fun K hK => ?_)
  go_simp
  refine hK _ _ (held_in HSS.out ⟨h3.below (bel_drew (bel_alloc (bel_refl w3) (.cells #[] 79))), (k7.alloc (.cells #[] 79)).drew⟩) ?_
  clear hK K
  repeat (refine tree_q (by rfl) (by rfl) (fun K hK => ?_); go_simp; refine hK _ ?_; clear hK K)
  refine tree_nil ?_
  have hb4 := bel_drew (bel_alloc (bel_refl w3) (.cells #[] 79))
  have rd4 := (k4.below hb4).rd
  have k5' := k5.below hb4
  have rd5 := k5'.rd
  have hB4 := bel_call hB3 hb4
  clear q0 q1 q2 hS0 HSS hb4 h3 k7
  cases q with
  | true =>
    go_wp2_with fail
    go_ret
    exact ⟨rfl, hB4⟩
  | false =>
    have hno2 : ¬ okP ⟨row, col, t, l, b, r⟩ := hno.resolve_left (of_decide_eq_false HQ.out.symm)
    have hno3 : mayR t l b r = false ∨ mayB row col = false := by
      cases e1 : mayR t l b r with
      | false => exact .inl rfl
      | true =>
        cases e2 : mayB row col with
        | false => exact .inr rfl
        | true => exact absurd ⟨e1, e2⟩ hno2
    clear hno hno2
    go_wp2_with fail
    refine (mayrect_any t l b r _).mono ?_
    rintro e w5 ⟨rfl, hb5⟩
    have k55 := k5'.below hb5
    have rd55 := k55.rd
    have hB5 := bel_call hB4 hb5
    clear hb5
    cases e1 : mayR t l b r with
    | false =>
      go_wp2_with fail
      go_ret
      exact ⟨rfl, hB5⟩
    | true =>
      have e2 : mayB row col = false := hno3.resolve_left (by rw [e1]; decide)
      go_wp2_with fail
      refine (may_any row col _).mono ?_
      rintro e w6 ⟨rfl, hb6⟩
      have hB6 := bel_call hB5 hb6
      clear hb6
      rw [e2]
      go_wp2_with fail
      go_ret
      exact ⟨rfl, hB6⟩
end Go.Proofs.Ytdionganlmnlkaa
namespace Go.Proofs.Ytdionganlmnlkaa
open Go.ChangeShapes Go.WideShapes Go.ChangeAt Go.RowKit Go.Deep
attribute [local go_sem] Cls

theorem map_ne {w : World} {b g n : Nat} {t : TypeId} {cs : Array Value} {L : List Pr} (h : Blk w b t cs) (hs : PSet w g n L) : some b ≠ some g := by
  rintro e
  injection e with e
  subst e
  obtain ⟨D, ⟨es, clock, hb, _⟩, _⟩ := hs
  rw [h] at hb
  injection hb with hb
  cases hb
theorem band_ne {w : World} {b mb nb n : Nat} {t : TypeId} {cs : Array Value} {F : Int → Option Nat} {G : Int → List Pr} (h : Blk w b t cs) (hs : BG w mb nb n F G) : some b ≠ some mb := by
  rintro e
  injection e with e
  subst e
  obtain ⟨D, ⟨es, clock, hb, _⟩, _⟩ := hs.band
  rw [h] at hb
  injection hb with hb
  cases hb
theorem grow_at {p : Pr} {L : List Pr} {lo k : Int} (h : lo ≤ k) (q : Int) (x : Pr) : x ∈ (if q = k then p :: (if lo ≤ k ∧ k < k then p :: L.filter (reach k) else L.filter (reach k)) else (if lo ≤ q ∧ q < k then p :: L.filter (reach q) else L.filter (reach q))) ↔ x ∈ (if lo ≤ q ∧ q < k + 1 then p :: L.filter (reach q) else L.filter (reach q)) := by
  by_cases e : q = k
  · subst e
    rw [if_pos rfl, if_neg (by omega), if_pos (by omega)]
  · rw [if_neg e]
    by_cases e2 : lo ≤ q ∧ q < k
    · rw [if_pos e2, if_pos (by omega)]
    · rw [if_neg e2, if_neg (by omega)]
theorem tdiv_in {t b : Int} (h1 : 1 ≤ t) (h2 : t ≤ b) (h3 : b ≤ 4096) : 0 ≤ t.tdiv 64 ∧ t.tdiv 64 ≤ b.tdiv 64 ∧ b.tdiv 64 ≤ 64 := by
  rw [Int.tdiv_eq_ediv_of_nonneg (by omega), Int.tdiv_eq_ediv_of_nonneg (by omega)]
  omega
/-- What Add answers where it adds. -/
def AddIs (w : World) (bb ma mb nb n : Nat) (L : List Pr) (F : Int → Option Nat) (p : Pr) (e : Ending) (w' : World) : Prop :=
  ∃ F', e = .returned (.bool true) ∧ BIs w' bb ma mb (nb + 65) (n + 65) (p :: L) F' ∧ Frm (ownB bb ma mb F) w w' ∧ ∀ k g, F' k = some g → F k = some g ∨ w.heap.size ≤ g

set_option maxHeartbeats 6400000 in
set_option maxRecDepth 100000 in
theorem add_yes (bb ma mb nb n : Nat) (L : List Pr) (F : Int → Option Nat) (t l b r row col : Int) (w : World) (h : BIs w bb ma mb nb n L F) (hok : okP ⟨row, col, t, l, b, r⟩) (hno : ⟨row, col, t, l, b, r⟩ ∉ L) (hn : n + 65 < maxLen) (hnb : nb + 65 < maxLen) :
    Calls Try.prog 26 #[.pointer (some ⟨bb, 0, none⟩), .agg #[.int .i64 t, .int .i64 l, .int .i64 b, .int .i64 r], .agg #[.int .i64 row, .int .i64 col]] w (AddIs w bb ma mb nb n L F ⟨row, col, t, l, b, r⟩) := by
  obtain ⟨⟨ht1, ht2, ht3⟩, hr⟩ := okP_rng hok
  obtain ⟨kl, hkl⟩ := key_pair ⟨row, col, t, l, b, r⟩ hr
  dsimp only at ht1 ht2 ht3
  have HKL := Lib.hid hkl
  obtain ⟨hm1, hm2⟩ := hok
  dsimp only at hm1 hm2
  have hbbl := h.top.lt
  go_enter Try.func26, Try.ntmps26
  go_wp2_with fail
  have hB3 := bel_alloc (bel_alloc (bel_alloc (bel_refl w) (.cells #[.int .i64 t, .int .i64 l, .int .i64 b, .int .i64 r] 51)) (.cells #[.int .i64 row, .int .i64 col] 32)) (.cells #[.int .i64 t, .int .i64 l, .int .i64 b, .int .i64 r, .int .i64 row, .int .i64 col] 91)
  have h3 := h.below hB3
  have k4 := ((Blk.new w rfl 51 #[.int .i64 t, .int .i64 l, .int .i64 b, .int .i64 r]).alloc (.cells #[.int .i64 row, .int .i64 col] 32)).alloc (.cells #[.int .i64 t, .int .i64 l, .int .i64 b, .int .i64 r, .int .i64 row, .int .i64 col] 91)
  have k5 := (Blk.new (w.alloc (.cells #[.int .i64 t, .int .i64 l, .int .i64 b, .int .i64 r] 51)) (g := w.heap.size + 1) (by simp) 32 #[.int .i64 row, .int .i64 col]).alloc (.cells #[.int .i64 t, .int .i64 l, .int .i64 b, .int .i64 r, .int .i64 row, .int .i64 col] 91)
  have k7 := Blk.new ((w.alloc (.cells #[.int .i64 t, .int .i64 l, .int .i64 b, .int .i64 r] 51)).alloc (.cells #[.int .i64 row, .int .i64 col] 32)) (g := w.heap.size + 1 + 1) (by simp) 91 #[.int .i64 t, .int .i64 l, .int .i64 b, .int .i64 r, .int .i64 row, .int .i64 col]
  generalize hwz : ((w.alloc (.cells #[.int .i64 t, .int .i64 l, .int .i64 b, .int .i64 r] 51)).alloc (.cells #[.int .i64 row, .int .i64 col] 32)).alloc (.cells #[.int .i64 t, .int .i64 l, .int .i64 b, .int .i64 r, .int .i64 row, .int .i64 col] 91) = w3 at hB3 h3 k4 k5 k7 ⊢
  clear hwz
  obtain ⟨S, hSS⟩ : ∃ S : World → Prop, S = fun w' => BIs w' bb ma mb nb n L F ∧ Blk w' (w.heap.size + 1 + 1) 91 #[.int .i64 t, .int .i64 l, .int .i64 b, .int .i64 r, .int .i64 row, .int .i64 col] := ⟨_, rfl⟩
  have q0 := fun x => (held_of hSS x).1.top.rd
  have q1 := fun x => (held_of hSS x).2.rd
  have q2 : ∀ x : Held S, (Instr.lookup 93 (.map (some ma)) (.agg #[.int .i64 t, .int .i64 l, .int .i64 b, .int .i64 r, .int .i64 row, .int .i64 col]) true).run Try.prog x.w = .ok (.tuple #[.agg #[], .bool false]) x.w := fun x => by
    have := (held_of hSS x).1.all.look_run law_pair Try.underlying93 zero_unit ⟨row, col, t, l, b, r⟩ hkl
    rw [decide_eq_false hno] at this
    exact this
  have HSS := Lib.hid hSS
  have hS0 := held_in HSS.out ⟨h3.below (bel_drew (bel_refl w3)), k7.drew⟩
  haveI : Nonempty (Held S) := ⟨⟨_, hS0⟩⟩
  clear hSS
  refine wp_region_tree (S := S) 12 (.q 0 <| .q 1 <| .q 2 <| .q 3 <| .q 4 <| .q 5 <| .q 6 <| .q 7 <| .q 8 <| .a 9 <| .a 10 <| .q 11 <| .done) [] (by kernel_rfl) (by kernel_rfl) hS0 ?_
  repeat (refine tree_q (by rfl) (by rfl) (fun K hK => ?_); go_simp; refine hK _ ?_; clear hK K)
  refine tree_a (by rfl) (by rfl) (fun K hK => ?_)
  go_simp
  refine hK _ _ (held_in HSS.out ⟨h3.below (bel_drew (bel_alloc (bel_refl w3) (.cells #[] 79))), (k7.alloc (.cells #[] 79)).drew⟩) ?_
  clear hK K
  refine tree_a (by rfl) (by rfl) (fun K hK => ?_)
  go_simp
  refine hK _ _ (held_in HSS.out ⟨h3.below (bel_drew (bel_alloc (bel_refl w3) (.cells #[] 79))), (k7.alloc (.cells #[] 79)).drew⟩) ?_
  clear hK K
  repeat (refine tree_q (by rfl) (by rfl) (fun K hK => ?_); go_simp; refine hK _ ?_; clear hK K)
  refine tree_nil ?_
  have hb4 := bel_drew (bel_alloc (bel_refl w3) (.cells #[] 79))
  replace k4 := k4.below hb4
  replace k5 := k5.below hb4
  replace k7 := k7.below hb4
  replace h3 := h3.below hb4
  have rd4 := k4.rd
  have rd5 := k5.rd
  have hB4 := bel_call hB3 hb4
  clear q0 q1 q2 hS0 HSS hb4 hB3
  go_wp2_with fail
  refine (mayrect_any t l b r _).mono ?_
  rintro e w5 ⟨rfl, hb5⟩
  replace k4 := k4.below hb5
  replace k5 := k5.below hb5
  replace k7 := k7.below hb5
  replace h3 := h3.below hb5
  replace rd4 := k4.rd
  replace rd5 := k5.rd
  replace hB4 := bel_call hB4 hb5
  clear hb5
  rw [hm1]
  go_wp2_with fail
  refine (may_any row col _).mono ?_
  rintro e w6 ⟨rfl, hb6⟩
  replace k4 := k4.below hb6
  replace k7 := k7.below hb6
  replace h3 := h3.below hb6
  replace hB4 := bel_call hB4 hb6
  clear hb6 k5 rd5 rd4
  rw [hm2]
  go_wp2_with fail
  obtain ⟨w7, hrun7, hset7, hg7⟩ := (h3.below (bel_drew (bel_refl w6))).all.put_run law_pair Try.underlying93 pairV_inj (by omega) ⟨row, col, t, l, b, r⟩ hr HKL.out
  have hrun7' : (Instr.mapUpdate 93 (.map (some ma)) (.agg #[.int .i64 t, .int .i64 l, .int .i64 b, .int .i64 r, .int .i64 row, .int .i64 col]) (.agg #[])).run Try.prog w6.drew = .ok () w7 := hrun7
  obtain ⟨S, hSS⟩ : ∃ S : World → Prop, S = fun w' => Blk w' bb 96 #[.map (some ma), .map (some mb)] ∧ Blk w' (w.heap.size + 1 + 1) 91 #[.int .i64 t, .int .i64 l, .int .i64 b, .int .i64 r, .int .i64 row, .int .i64 col] := ⟨_, rfl⟩
  have q0 := fun x => (held_of hSS x).1.rd
  have q1 := fun x => (held_of hSS x).2.rd
  have HSS := Lib.hid hSS
  have hS0 : S w6.drew := held_in HSS.out ⟨h3.top.drew, k7.drew⟩
  haveI : Nonempty (Held S) := ⟨⟨_, hS0⟩⟩
  clear hSS hrun7
  have hmal := h3.all.lt
  have hmaw := h.all.lt
  have hbt := h3.top
  have htop7 := h3.top.drew.grownX hg7 (map_ne h3.top.drew (h3.below (bel_drew (bel_refl w6))).all)
  have k77 := k7.drew.grownX hg7 (by intro e; injection e with e; omega)
  have k47 := k4.drew.grownX hg7 (by intro e; injection e with e; omega)
  have hbg7 := (h3.below (bel_drew (bel_refl w6))).bg.kept hg7 (by intro e; injection e with e; exact h3.ne e.symm) (fun k g hk e => by injection e with e; exact h3.nel k g hk e)
  have hF7 := (Frm.of_below (S := ownB bb ma mb F) (bel_drew hB4)).grown hg7 (fun g e => by injection e with e; exact .inl (.inr (.inl e.symm)))
  refine wp_region_tree (S := S) 7 (.q 0 <| .q 1 <| .q 2 <| .q 3 <| .q 4 <| .q 5 <| .a 6 <| .done) [] (by kernel_rfl) (by kernel_rfl) hS0 ?_
  repeat (refine tree_q (by rfl) (by rfl) (fun K hK => ?_); go_simp; refine hK _ ?_; clear hK K)
  refine tree_a (by rfl) (by rfl) (fun K hK => ?_)
  go_simp
  refine hK _ _ (held_in HSS.out ⟨htop7, k77⟩) ?_
  clear hK K
  refine tree_nil ?_
  clear q0 q1 hS0 HSS hrun7' k4 k7
  have rd4 := k47.rd
  have hdiv := tdiv_in ht1 ht2 ht3
  go_wp2_with fail
  obtain ⟨lo, hlo⟩ : ∃ lo, lo = t.tdiv 64 := ⟨_, rfl⟩
  obtain ⟨hi, hhi⟩ : ∃ hi, hi = b.tdiv 64 := ⟨_, rfl⟩
  rw [← hlo, ← hhi] at hdiv
  rw [← hlo]
  obtain ⟨hd1, hd2, hd3⟩ := hdiv
  have hreach : ∀ q, reach q ⟨row, col, t, l, b, r⟩ = decide (lo ≤ q ∧ q ≤ hi) := fun q => by
    show decide (t.tdiv 64 ≤ q ∧ q ≤ b.tdiv 64) = _
    rw [← hlo, ← hhi]
  have HRE := Lib.hid hreach
  have hquo := hhi.symm
  clear hlo hhi hreach
  have hbgs : BG w7 mb nb n F (fun q => if lo ≤ q ∧ q < lo then ⟨row, col, t, l, b, r⟩ :: L.filter (reach q) else L.filter (reach q)) := hbg7.ext (fun q x => by rw [if_neg (by omega)])
  clear hbg7
  go_loopw [10] (fun s10 wr => ∃ (k : Int) (Fx : Int → Option Nat) (nb' n' : Nat), lo ≤ k ∧ k ≤ hi + 1 ∧ s10 = .int .i64 k ∧ BG wr mb nb' n' Fx (fun q => if lo ≤ q ∧ q < k then ⟨row, col, t, l, b, r⟩ :: L.filter (reach q) else L.filter (reach q)) ∧ nb' ≤ nb + (k - lo).toNat ∧ n' ≤ n + (k - lo).toNat ∧
      PSet wr ma (n + 1) (⟨row, col, t, l, b, r⟩ :: L) ∧ Blk wr bb 96 #[.map (some ma), .map (some mb)] ∧ Blk wr w.heap.size 51 #[.int .i64 t, .int .i64 l, .int .i64 b, .int .i64 r] ∧ Blk wr (w.heap.size + 1 + 1) 91 #[.int .i64 t, .int .i64 l, .int .i64 b, .int .i64 r, .int .i64 row, .int .i64 col] ∧ (∀ q g, Fx q = some g → g ≠ ma) ∧ Hid (∀ q g, Fx q = some g → F q = some g ∨ w.heap.size + 1 + 1 + 1 ≤ g) ∧ Frm (ownB bb ma mb F) w wr) (fun s10 _ => (hi + 1 - intOf s10).toNat)
  case atStart => exact ⟨lo, F, nb, n, Int.le_refl _, by omega, rfl, hbgs, by omega, by omega, hset7, htop7, k47, k77, h3.nel, (show ∀ q g, F q = some g → _ from fun q g h => .inl h), hF7⟩
  case round =>
    obtain ⟨k, Fx, nb', n', hk1, hk2, rfl, hbg, hnb', hn', hset, htop, k4, k7, hnel, HFX, hFr⟩ := hrel
    clear hbgs hset7 htop7 k47 k77 hF7 rd4 hg7
    have rd4 := k4.rd
    by_cases hkh : k ≤ hi
    · have hki : i64P k := by unfold i64P; omega
      have hwk : IntKind.i64.wrap (k + 1) = k + 1 := IntWalk.i64_in _ (by omega)
      have hlook := hbg.look hki
      have heqm := fun F w => run_eql_map_nil (P := Try.prog) w 93 _ _ F Try.underlying93
      have hwl := hFr.size
      cases hFk : Fx k with
      | none =>
        rw [hFk] at hlook
        have hmk := run_makeMap (P := Try.prog) 93 wr
        obtain ⟨w8, hrun8, hbg8, hg8⟩ := (hbg.below (bel_alloc (bel_refl wr) (.map #[] 0))).fresh hki hFk ((MSet.made Try.prog 91 pairV rngP wr).mono (Nat.zero_le n')) (Ne.symm (Nat.ne_of_lt hbg.ltm)) (fun q g' hq => Nat.ne_of_lt (hbg.ltg hq)) (by omega)
        have hset8 := (hset.below (bel_alloc (bel_refl wr) (.map #[] 0))).kept hg8 (by intro e; injection e with e; exact h.ne e)
        have htop8 := (htop.alloc (.map #[] 0)).grownX hg8 (band_ne (htop.alloc (.map #[] 0)) (hbg.below (bel_alloc (bel_refl wr) (.map #[] 0))))
        have k78 := (k7.alloc (.map #[] 0)).grownX hg8 (band_ne (k7.alloc (.map #[] 0)) (hbg.below (bel_alloc (bel_refl wr) (.map #[] 0))))
        have k48 := (k4.alloc (.map #[] 0)).grownX hg8 (band_ne (k4.alloc (.map #[] 0)) (hbg.below (bel_alloc (bel_refl wr) (.map #[] 0))))
        have hfr8 := (hFr.alloc (.map #[] 0)).grown hg8 (fun z e => by injection e with e; exact .inl (.inr (.inr (.inl e.symm))))
        obtain ⟨F8, hF8e⟩ : ∃ F8 : Int → Option Nat, F8 = (fun q => if q = k then some wr.heap.size else Fx q) := ⟨_, rfl⟩
        rw [← hF8e] at hbg8
        have hF8 : F8 k = some wr.heap.size := by rw [hF8e]; exact if_pos rfl
        have hset8l := hset.lt
        have hwll := k7.lt
        have hnel8 : ∀ q g, F8 q = some g → g ≠ ma := fun q g hq => by
          rw [hF8e] at hq
          dsimp only at hq
          by_cases e : q = k
          · rw [if_pos e] at hq
            have := Option.some.inj hq
            omega
          · rw [if_neg e] at hq
            exact hnel q g hq
        have hfx8 : ∀ q g, F8 q = some g → F q = some g ∨ w.heap.size + 1 + 1 + 1 ≤ g := fun q g hq => by
          rw [hF8e] at hq
          dsimp only at hq
          by_cases e : q = k
          · rw [if_pos e] at hq
            have := Option.some.inj hq
            exact .inr (by omega)
          · rw [if_neg e] at hq
            exact HFX.out q g hq
        have rdt := htop.rd
        have HF8 := Lib.hid hF8
        have HN8 := Lib.hid hnel8
        have HX8 := Lib.hid hfx8
        clear hFk hF8 hnel8 hfx8 hF8e
        go_wp2_with fail
        clear hlook hmk hrun8 rdt heqm
        have hbgd := hbg8.below (bel_drew (bel_refl w8))
        have hgrp := hbgd.grp k wr.heap.size HF8.out
        rw [if_neg (by omega)] at hgrp
        obtain ⟨w9, hrun9, hset9, hg9⟩ := hgrp.put_run law_pair Try.underlying93 pairV_inj (by omega) ⟨row, col, t, l, b, r⟩ hr HKL.out
        have hrun9' : (Instr.mapUpdate 93 (.map (some wr.heap.size)) (.agg #[.int .i64 t, .int .i64 l, .int .i64 b, .int .i64 r, .int .i64 row, .int .i64 col]) (.agg #[])).run Try.prog w8.drew = .ok () w9 := hrun9
        obtain ⟨S, hSS⟩ : ∃ S : World → Prop, S = fun w' => Blk w' bb 96 #[.map (some ma), .map (some mb)] ∧ Blk w' (w.heap.size + 1 + 1) 91 #[.int .i64 t, .int .i64 l, .int .i64 b, .int .i64 r, .int .i64 row, .int .i64 col] ∧ (Instr.lookup 94 (.map (some mb)) (.int .i64 k) false).run Try.prog w' = .ok (.map (some wr.heap.size)) w' := ⟨_, rfl⟩
        have q0 := fun x => (held_of hSS x).1.rd
        have q1 := fun x => (held_of hSS x).2.1.rd
        have q2 := fun x => (held_of hSS x).2.2
        have HSS := Lib.hid hSS
        have hS0 : S w8.drew := held_in HSS.out ⟨htop8.drew, k78.drew, by rw [hbgd.look hki, HF8.out]⟩
        haveI : Nonempty (Held S) := ⟨⟨_, hS0⟩⟩
        have hneb := map_ne htop8.drew hgrp
        have hgm := hbgd.ne k wr.heap.size HF8.out
        have hgma := HN8.out k wr.heap.size HF8.out
        have hbg9 := hbgd.put HF8.out hg9 (by rw [if_neg (by omega)]; exact hset9)
        have hl9 : (Instr.lookup 94 (.map (some mb)) (.int .i64 k) false).run Try.prog w9 = .ok (.map (some wr.heap.size)) w9 := by rw [hbg9.look hki, HF8.out]
        have hbx := hbg9.ext (G' := fun q => if lo ≤ q ∧ q < k + 1 then ⟨row, col, t, l, b, r⟩ :: L.filter (reach q) else L.filter (reach q)) (fun q x => grow_at (lo := lo) (k := k) hk1 q x)
        have htop9 := htop8.drew.grownX hg9 hneb
        have k79 := k78.drew.grownX hg9 (map_ne k78.drew hgrp)
        have k49 := k48.drew.grownX hg9 (map_ne k48.drew hgrp)
        have hset9' := ((hset8).below (bel_drew (bel_refl w8))).kept hg9 (by intro e; injection e with e; exact hgma e.symm)
        have hfr9 := (hfr8).drew.grown hg9 (fun z e => by injection e with e; subst e; exact (HX8.out k wr.heap.size HF8.out).imp (fun h => .inr (.inr (.inr ⟨k, h⟩))) (fun h => by omega))
        have HBX := Lib.hid hbx
        have HL9 := Lib.hid hl9
        clear hSS hrun9 hbg9 hl9 hbx hgrp hbgd
        refine wp_region_tree (S := S) 9 (.q 0 <| .q 1 <| .q 2 <| .q 3 <| .q 4 <| .q 5 <| .q 6 <| .q 7 <| .a 8 <| .done) [] (by kernel_rfl) (by kernel_rfl) hS0 ?_
        repeat (refine tree_q (by rfl) (by rfl) (fun K hK => ?_); go_simp; refine hK _ ?_; clear hK K)
        refine tree_a (by rfl) (by rfl) (fun K hK => ?_)
        go_simp
        refine hK _ _ (held_in HSS.out ⟨htop9, k79, HL9.out⟩) ?_
        clear hK K
        refine tree_nil ?_
        clear q0 q1 q2 hS0 HSS hrun9'
        go_wp2_with fail
        go_roundw
        case rel => exact ⟨k + 1, F8, (nb' + 1), n' + 1, by omega, by omega, by go_num, HBX.out, by omega, by omega, hset9', htop9, k49, k79, HN8.out, Lib.hid HX8.out, hfr9⟩
        case measure => simp [intOf]; omega

      | some g =>
        rw [hFk] at hlook
        have rdt := htop.rd
        have HFK := Lib.hid hFk
        clear hFk
        go_wp2_with fail
        clear hlook rdt heqm
        have hbgd := hbg.below (bel_drew (bel_refl wr))
        have hgrp := hbgd.grp k g HFK.out
        rw [if_neg (by omega)] at hgrp
        obtain ⟨w9, hrun9, hset9, hg9⟩ := hgrp.put_run law_pair Try.underlying93 pairV_inj (by omega) ⟨row, col, t, l, b, r⟩ hr HKL.out
        have hrun9' : (Instr.mapUpdate 93 (.map (some g)) (.agg #[.int .i64 t, .int .i64 l, .int .i64 b, .int .i64 r, .int .i64 row, .int .i64 col]) (.agg #[])).run Try.prog wr.drew = .ok () w9 := hrun9
        obtain ⟨S, hSS⟩ : ∃ S : World → Prop, S = fun w' => Blk w' bb 96 #[.map (some ma), .map (some mb)] ∧ Blk w' (w.heap.size + 1 + 1) 91 #[.int .i64 t, .int .i64 l, .int .i64 b, .int .i64 r, .int .i64 row, .int .i64 col] ∧ (Instr.lookup 94 (.map (some mb)) (.int .i64 k) false).run Try.prog w' = .ok (.map (some g)) w' := ⟨_, rfl⟩
        have q0 := fun x => (held_of hSS x).1.rd
        have q1 := fun x => (held_of hSS x).2.1.rd
        have q2 := fun x => (held_of hSS x).2.2
        have HSS := Lib.hid hSS
        have hS0 : S wr.drew := held_in HSS.out ⟨htop.drew, k7.drew, by rw [hbgd.look hki, HFK.out]⟩
        haveI : Nonempty (Held S) := ⟨⟨_, hS0⟩⟩
        have hneb := map_ne htop.drew hgrp
        have hgm := hbgd.ne k g HFK.out
        have hgma := hnel k g HFK.out
        have hbg9 := hbgd.put HFK.out hg9 (by rw [if_neg (by omega)]; exact hset9)
        have hl9 : (Instr.lookup 94 (.map (some mb)) (.int .i64 k) false).run Try.prog w9 = .ok (.map (some g)) w9 := by rw [hbg9.look hki, HFK.out]
        have hbx := hbg9.ext (G' := fun q => if lo ≤ q ∧ q < k + 1 then ⟨row, col, t, l, b, r⟩ :: L.filter (reach q) else L.filter (reach q)) (fun q x => grow_at (lo := lo) (k := k) hk1 q x)
        have htop9 := htop.drew.grownX hg9 hneb
        have k79 := k7.drew.grownX hg9 (map_ne k7.drew hgrp)
        have k49 := k4.drew.grownX hg9 (map_ne k4.drew hgrp)
        have hset9' := ((hset).below (bel_drew (bel_refl wr))).kept hg9 (by intro e; injection e with e; exact hgma e.symm)
        have hfr9 := (hFr).drew.grown hg9 (fun z e => by injection e with e; subst e; exact (HFX.out k g HFK.out).imp (fun h => .inr (.inr (.inr ⟨k, h⟩))) (fun h => by omega))
        have HBX := Lib.hid hbx
        have HL9 := Lib.hid hl9
        clear hSS hrun9 hbg9 hl9 hbx hgrp hbgd
        refine wp_region_tree (S := S) 9 (.q 0 <| .q 1 <| .q 2 <| .q 3 <| .q 4 <| .q 5 <| .q 6 <| .q 7 <| .a 8 <| .done) [] (by kernel_rfl) (by kernel_rfl) hS0 ?_
        repeat (refine tree_q (by rfl) (by rfl) (fun K hK => ?_); go_simp; refine hK _ ?_; clear hK K)
        refine tree_a (by rfl) (by rfl) (fun K hK => ?_)
        go_simp
        refine hK _ _ (held_in HSS.out ⟨htop9, k79, HL9.out⟩) ?_
        clear hK K
        refine tree_nil ?_
        clear q0 q1 q2 hS0 HSS hrun9'
        go_wp2_with fail
        go_roundw
        case rel => exact ⟨k + 1, Fx, nb', n' + 1, by omega, by omega, by go_num, HBX.out, by omega, by omega, hset9', htop9, k49, k79, hnel, Lib.hid HFX.out, hfr9⟩
        case measure => simp [intOf]; omega

    · obtain rfl : k = hi + 1 := by omega
      go_wp2_with fail
      go_ret
      refine ⟨Fx, rfl, ⟨htop, hset.mono (by omega), (hbg.mono (by omega) (by omega)).ext (fun q x => ?_), h.ne, hnel, fun p hp => ?_⟩, hFr, fun q g hq => (HFX.out q g hq).imp id (by omega)⟩
      · rw [List.filter_cons, HRE.out q]
        by_cases e : lo ≤ q ∧ q ≤ hi
        · rw [if_pos (by omega), if_pos (decide_eq_true e)]
        · rw [if_neg (by omega), if_neg (by simp only [decide_eq_true_eq]; exact e)]
      · rcases List.mem_cons.1 hp with rfl | hp
        · exact ⟨hm1, hm2⟩
        · exact h.may p hp
end Go.Proofs.Ytdionganlmnlkaa
namespace Go.Proofs.Ytdionganlmnlkaa
open Go.ChangeShapes Go.WideShapes Go.ChangeAt Go.RowKit Go.Deep
attribute [local go_sem] Cls

section
variable {w w' : World} {mb nb n : Nat} {F : Int → Option Nat} {G : Int → List Pr}
theorem BG.delp (h : BG w mb nb n F G) {k : Int} {g : Nat} {M : List Pr} (hF : F k = some g) (hw : w.grownBy w' (some g)) (hs : PSet w' g n M) : BG w' mb nb n F (fun q => if q = k then M else G q) := by
  have hm := h.ne k g hF
  obtain ⟨D, hD, hat⟩ := h.band
  refine ⟨⟨D, hD.kept hw (by simpa using hm.symm), hat⟩, fun q g' hq => ?_, fun q hq => ?_, h.inj, h.ne⟩
  · by_cases e : q = k
    · subst e
      rw [hF] at hq
      injection hq with hq
      subst hq
      rw [if_pos rfl]
      exact hs
    · rw [if_neg e]
      refine (h.grp q g' hq).kept hw ?_
      intro he
      injection he with he
      subst he
      exact e (h.inj q k g' hq hF)
  · have e : q ≠ k := by
      rintro rfl
      rw [hF] at hq
      cases hq
    rw [if_neg e]
    exact h.non q hq
theorem BG.drop (h : BG w mb nb n F G) {k : Int} (hk : i64P k) (hG : G k = []) (ty : TypeId) :
    ∃ w', (Builtin.delete_ #[94, 3] ty #[.map (some mb), .int .i64 k]).run Try.prog w = .ok (.tuple #[]) w' ∧ BG w' mb nb n (fun q => if q = k then none else F q) G ∧ w.grownBy w' (some mb) := by
  obtain ⟨D, hD, hat⟩ := h.band
  obtain ⟨w', hrun, ho, ht⟩ := hD.drop law_int Try.underlying94 (key_int hk) ty
  have hw := ht.grown
  refine ⟨w', hrun, ⟨⟨_, ho, fun q => ?_⟩, fun q g' hq => ?_, fun q hq => ?_, fun q q' g' h1 h2 => ?_, fun q g' hq => ?_⟩, hw⟩
  · by_cases e : q = k
    · subst e
      rw [if_pos rfl, Maps.atKey_del_same]
      rfl
    · rw [if_neg e, Maps.atKey_del_other (by intro e'; injection e' with _ e'; exact e e')]
      exact hat q
  · by_cases e : q = k
    · rw [if_pos e] at hq
      cases hq
    · rw [if_neg e] at hq
      exact (h.grp q g' hq).kept hw (by simpa using h.ne q g' hq)
  · by_cases e : q = k
    · rw [e]; exact hG
    · rw [if_neg e] at hq
      exact h.non q hq
  · by_cases e1 : q = k
    · rw [if_pos e1] at h1
      cases h1
    · by_cases e2 : q' = k
      · rw [if_pos e2] at h2
        cases h2
      · rw [if_neg e1] at h1
        rw [if_neg e2] at h2
        exact h.inj q q' g' h1 h2
  · by_cases e : q = k
    · rw [if_pos e] at hq
      cases hq
    · rw [if_neg e] at hq
      exact h.ne q g' hq
/-- len of a band's map. -/
theorem pset_len {g : Nat} {M : List Pr} (h : PSet w g n M) (hM : ∀ p, p ∈ M → rngP p) : ∃ z : Nat, (z = 0 ↔ M = []) ∧ ∀ ty, (Builtin.len_ #[93] ty #[.map (some g)]).run Try.prog w = .ok (.int .i64 z) w := by
  obtain ⟨D, hown, hz⟩ := MSet.size h law_pair (fun x hx => key_pair x (hM x hx))
  exact ⟨Maps.size D, hz, fun ty => hown.len Try.underlying93 ty⟩
theorem cut_at {p : Pr} {L : List Pr} {lo k : Int} (h : lo ≤ k) (q : Int) (x : Pr) : x ∈ (if q = k then (if lo ≤ k ∧ k < k then (L.filter (reach k)).filter (fun x => decide (x ≠ p)) else L.filter (reach k)).filter (fun x => decide (x ≠ p)) else (if lo ≤ q ∧ q < k then (L.filter (reach q)).filter (fun x => decide (x ≠ p)) else L.filter (reach q))) ↔ x ∈ (if lo ≤ q ∧ q < k + 1 then (L.filter (reach q)).filter (fun x => decide (x ≠ p)) else L.filter (reach q)) := by
  by_cases e : q = k
  · subst e
    rw [if_pos rfl, if_neg (by omega), if_pos (by omega)]
  · rw [if_neg e]
    by_cases e2 : lo ≤ q ∧ q < k
    · rw [if_pos e2, if_pos (by omega)]
    · rw [if_neg e2, if_neg (by omega)]
end

def RemIs (w : World) (bb ma mb nb n : Nat) (L : List Pr) (F : Int → Option Nat) (p : Pr) (e : Ending) (w' : World) : Prop :=
  ∃ F', e = .returned (.bool true) ∧ BIs w' bb ma mb nb n (L.filter fun x => decide (x ≠ p)) F' ∧ Frm (ownB bb ma mb F) w w' ∧ ∀ k g, F' k = some g → F k = some g

set_option maxHeartbeats 3200000 in
set_option maxRecDepth 100000 in
theorem rem_no (bb ma mb nb n : Nat) (L : List Pr) (F : Int → Option Nat) (t l b r row col : Int) (w : World) (h : BIs w bb ma mb nb n L F) (hr : rngP ⟨row, col, t, l, b, r⟩) (hno : ⟨row, col, t, l, b, r⟩ ∉ L) :
    Calls Try.prog 23 #[.pointer (some ⟨bb, 0, none⟩), .agg #[.int .i64 t, .int .i64 l, .int .i64 b, .int .i64 r], .agg #[.int .i64 row, .int .i64 col]] w fun e w' => e = .returned (.bool false) ∧ Below w.heap.size w w' := by
  obtain ⟨kl, hkl⟩ := key_pair ⟨row, col, t, l, b, r⟩ hr
  have HKL := Lib.hid hkl
  go_enter Try.func23, Try.ntmps23
  go_wp2_with fail
  have hB3 := bel_alloc (bel_alloc (bel_alloc (bel_refl w) (.cells #[.int .i64 t, .int .i64 l, .int .i64 b, .int .i64 r] 51)) (.cells #[.int .i64 row, .int .i64 col] 32)) (.cells #[.int .i64 t, .int .i64 l, .int .i64 b, .int .i64 r, .int .i64 row, .int .i64 col] 91)
  have h3 := h.below hB3
  have k4 := ((Blk.new w rfl 51 #[.int .i64 t, .int .i64 l, .int .i64 b, .int .i64 r]).alloc (.cells #[.int .i64 row, .int .i64 col] 32)).alloc (.cells #[.int .i64 t, .int .i64 l, .int .i64 b, .int .i64 r, .int .i64 row, .int .i64 col] 91)
  have k7 := Blk.new ((w.alloc (.cells #[.int .i64 t, .int .i64 l, .int .i64 b, .int .i64 r] 51)).alloc (.cells #[.int .i64 row, .int .i64 col] 32)) (g := w.heap.size + 1 + 1) (by simp) 91 #[.int .i64 t, .int .i64 l, .int .i64 b, .int .i64 r, .int .i64 row, .int .i64 col]
  generalize hwz : ((w.alloc (.cells #[.int .i64 t, .int .i64 l, .int .i64 b, .int .i64 r] 51)).alloc (.cells #[.int .i64 row, .int .i64 col] 32)).alloc (.cells #[.int .i64 t, .int .i64 l, .int .i64 b, .int .i64 r, .int .i64 row, .int .i64 col] 91) = w3 at hB3 h3 k4 k7 ⊢
  clear hwz
  obtain ⟨S, hSS⟩ : ∃ S : World → Prop, S = fun w' => BIs w' bb ma mb nb n L F ∧ Blk w' (w.heap.size + 1 + 1) 91 #[.int .i64 t, .int .i64 l, .int .i64 b, .int .i64 r, .int .i64 row, .int .i64 col] := ⟨_, rfl⟩
  have q0 := fun x => (held_of hSS x).1.top.rd
  have q1 := fun x => (held_of hSS x).2.rd
  have q2 : ∀ x : Held S, (Instr.lookup 93 (.map (some ma)) (.agg #[.int .i64 t, .int .i64 l, .int .i64 b, .int .i64 r, .int .i64 row, .int .i64 col]) true).run Try.prog x.w = .ok (.tuple #[.agg #[], .bool false]) x.w := fun x => by
    have := (held_of hSS x).1.all.look_run law_pair Try.underlying93 zero_unit ⟨row, col, t, l, b, r⟩ HKL.out
    rw [decide_eq_false hno] at this
    exact this
  have HSS := Lib.hid hSS
  have hS0 := held_in HSS.out ⟨h3.below (bel_drew (bel_refl w3)), k7.drew⟩
  haveI : Nonempty (Held S) := ⟨⟨_, hS0⟩⟩
  clear hSS
  refine wp_region_tree (S := S) 12 (.q 0 <| .q 1 <| .q 2 <| .q 3 <| .q 4 <| .q 5 <| .q 6 <| .q 7 <| .q 8 <| .a 9 <| .a 10 <| .q 11 <| .done) [] (by kernel_rfl) (by kernel_rfl) hS0 ?_
  repeat (refine tree_q (by rfl) (by rfl) (fun K hK => ?_); go_simp; refine hK _ ?_; clear hK K)
  refine tree_a (by rfl) (by rfl) (fun K hK => ?_)
  go_simp
  refine hK _ _ (held_in HSS.out ⟨h3.below (bel_drew (bel_alloc (bel_refl w3) (.cells #[] 79))), (k7.alloc (.cells #[] 79)).drew⟩) ?_
  clear hK K
  refine tree_a (by rfl) (by rfl) (fun K hK => ?_)
  go_simp
  refine hK _ _ (held_in HSS.out ⟨h3.below (bel_drew (bel_alloc (bel_refl w3) (.cells #[] 79))), (k7.alloc (.cells #[] 79)).drew⟩) ?_
  clear hK K
  repeat (refine tree_q (by rfl) (by rfl) (fun K hK => ?_); go_simp; refine hK _ ?_; clear hK K)
  refine tree_nil ?_
  have hb4 := bel_drew (bel_alloc (bel_refl w3) (.cells #[] 79))
  replace k4 := k4.below hb4
  replace k7 := k7.below hb4
  replace h3 := h3.below hb4
  have hB4 := bel_call hB3 hb4
  clear q0 q1 q2 hS0 HSS hb4 hB3
  go_wp2_with fail
  go_ret
  exact ⟨rfl, hB4⟩

set_option maxHeartbeats 6400000 in
set_option maxRecDepth 100000 in
theorem rem_yes (bb ma mb nb n : Nat) (L : List Pr) (F : Int → Option Nat) (t l b r row col : Int) (w : World) (h : BIs w bb ma mb nb n L F) (hin : ⟨row, col, t, l, b, r⟩ ∈ L) :
    Calls Try.prog 23 #[.pointer (some ⟨bb, 0, none⟩), .agg #[.int .i64 t, .int .i64 l, .int .i64 b, .int .i64 r], .agg #[.int .i64 row, .int .i64 col]] w (RemIs w bb ma mb nb n L F ⟨row, col, t, l, b, r⟩) := by
  obtain ⟨⟨ht1, ht2, ht3⟩, hr⟩ := okP_rng (h.may _ hin)
  obtain ⟨kl, hkl⟩ := key_pair ⟨row, col, t, l, b, r⟩ hr
  dsimp only at ht1 ht2 ht3
  have HKL := Lib.hid hkl
  have HIN := Lib.hid hin
  have hmay := h.may
  have HMAY := Lib.hid hmay
  clear hmay
  have hbbl := h.top.lt
  go_enter Try.func23, Try.ntmps23
  go_wp2_with fail
  have hB3 := bel_alloc (bel_alloc (bel_alloc (bel_refl w) (.cells #[.int .i64 t, .int .i64 l, .int .i64 b, .int .i64 r] 51)) (.cells #[.int .i64 row, .int .i64 col] 32)) (.cells #[.int .i64 t, .int .i64 l, .int .i64 b, .int .i64 r, .int .i64 row, .int .i64 col] 91)
  have h3 := h.below hB3
  have k4 := ((Blk.new w rfl 51 #[.int .i64 t, .int .i64 l, .int .i64 b, .int .i64 r]).alloc (.cells #[.int .i64 row, .int .i64 col] 32)).alloc (.cells #[.int .i64 t, .int .i64 l, .int .i64 b, .int .i64 r, .int .i64 row, .int .i64 col] 91)
  have k7 := Blk.new ((w.alloc (.cells #[.int .i64 t, .int .i64 l, .int .i64 b, .int .i64 r] 51)).alloc (.cells #[.int .i64 row, .int .i64 col] 32)) (g := w.heap.size + 1 + 1) (by simp) 91 #[.int .i64 t, .int .i64 l, .int .i64 b, .int .i64 r, .int .i64 row, .int .i64 col]
  generalize hwz : ((w.alloc (.cells #[.int .i64 t, .int .i64 l, .int .i64 b, .int .i64 r] 51)).alloc (.cells #[.int .i64 row, .int .i64 col] 32)).alloc (.cells #[.int .i64 t, .int .i64 l, .int .i64 b, .int .i64 r, .int .i64 row, .int .i64 col] 91) = w3 at hB3 h3 k4 k7 ⊢
  clear hwz
  obtain ⟨S, hSS⟩ : ∃ S : World → Prop, S = fun w' => BIs w' bb ma mb nb n L F ∧ Blk w' (w.heap.size + 1 + 1) 91 #[.int .i64 t, .int .i64 l, .int .i64 b, .int .i64 r, .int .i64 row, .int .i64 col] := ⟨_, rfl⟩
  have q0 := fun x => (held_of hSS x).1.top.rd
  have q1 := fun x => (held_of hSS x).2.rd
  have q2 : ∀ x : Held S, (Instr.lookup 93 (.map (some ma)) (.agg #[.int .i64 t, .int .i64 l, .int .i64 b, .int .i64 r, .int .i64 row, .int .i64 col]) true).run Try.prog x.w = .ok (.tuple #[.agg #[], .bool true]) x.w := fun x => by
    have := (held_of hSS x).1.all.look_run law_pair Try.underlying93 zero_unit ⟨row, col, t, l, b, r⟩ HKL.out
    rw [decide_eq_true hin] at this
    exact this
  have HSS := Lib.hid hSS
  have hS0 := held_in HSS.out ⟨h3.below (bel_drew (bel_refl w3)), k7.drew⟩
  haveI : Nonempty (Held S) := ⟨⟨_, hS0⟩⟩
  clear hSS
  refine wp_region_tree (S := S) 12 (.q 0 <| .q 1 <| .q 2 <| .q 3 <| .q 4 <| .q 5 <| .q 6 <| .q 7 <| .q 8 <| .a 9 <| .a 10 <| .q 11 <| .done) [] (by kernel_rfl) (by kernel_rfl) hS0 ?_
  repeat (refine tree_q (by rfl) (by rfl) (fun K hK => ?_); go_simp; refine hK _ ?_; clear hK K)
  refine tree_a (by rfl) (by rfl) (fun K hK => ?_)
  go_simp
  refine hK _ _ (held_in HSS.out ⟨h3.below (bel_drew (bel_alloc (bel_refl w3) (.cells #[] 79))), (k7.alloc (.cells #[] 79)).drew⟩) ?_
  clear hK K
  refine tree_a (by rfl) (by rfl) (fun K hK => ?_)
  go_simp
  refine hK _ _ (held_in HSS.out ⟨h3.below (bel_drew (bel_alloc (bel_refl w3) (.cells #[] 79))), (k7.alloc (.cells #[] 79)).drew⟩) ?_
  clear hK K
  repeat (refine tree_q (by rfl) (by rfl) (fun K hK => ?_); go_simp; refine hK _ ?_; clear hK K)
  refine tree_nil ?_
  have hb4 := bel_drew (bel_alloc (bel_refl w3) (.cells #[] 79))
  replace k4 := k4.below hb4
  replace k7 := k7.below hb4
  replace h3 := h3.below hb4
  have hB4 := bel_call hB3 hb4
  clear q0 q1 q2 hS0 HSS hb4 hB3
  clear hin
  generalize hwz : (w3.alloc (.cells #[] 79)).drew = w6 at k4 k7 h3 hB4 ⊢
  clear hwz
  go_wp2_with fail
  have rd4 := k4.rd
  obtain ⟨w7, hrun7, hset7, hg7⟩ := (h3.below (bel_drew (bel_refl w6))).all.del_run law_pair Try.underlying93 pairV_inj ⟨row, col, t, l, b, r⟩ HKL.out 0
  have hrun7' : (Builtin.delete_ #[93, 91] 0 #[.map (some ma), .agg #[.int .i64 t, .int .i64 l, .int .i64 b, .int .i64 r, .int .i64 row, .int .i64 col]]).run Try.prog w6.drew = .ok (.tuple #[]) w7 := hrun7
  obtain ⟨S, hSS⟩ : ∃ S : World → Prop, S = fun w' => Blk w' bb 96 #[.map (some ma), .map (some mb)] ∧ Blk w' (w.heap.size + 1 + 1) 91 #[.int .i64 t, .int .i64 l, .int .i64 b, .int .i64 r, .int .i64 row, .int .i64 col] := ⟨_, rfl⟩
  have q0 := fun x => (held_of hSS x).1.rd
  have q1 := fun x => (held_of hSS x).2.rd
  have HSS := Lib.hid hSS
  have hS0 : S w6.drew := held_in HSS.out ⟨h3.top.drew, k7.drew⟩
  haveI : Nonempty (Held S) := ⟨⟨_, hS0⟩⟩
  clear hSS hrun7
  have hmal := h3.all.lt
  have hmaw := h.all.lt
  have htop7 := h3.top.drew.grownX hg7 (map_ne h3.top.drew (h3.below (bel_drew (bel_refl w6))).all)
  have k77 := k7.drew.grownX hg7 (by intro e; injection e with e; omega)
  have k47 := k4.drew.grownX hg7 (by intro e; injection e with e; omega)
  have hbg7 := (h3.below (bel_drew (bel_refl w6))).bg.kept hg7 (by intro e; injection e with e; exact h3.ne e.symm) (fun k g hk e => by injection e with e; exact h3.nel k g hk e)
  have hF7 := (Frm.of_below (S := ownB bb ma mb F) (bel_drew hB4)).grown hg7 (fun g e => by injection e with e; exact .inl (.inr (.inl e.symm)))
  refine wp_region_tree (S := S) 6 (.q 0 <| .q 1 <| .q 2 <| .q 3 <| .q 4 <| .a 5 <| .done) [] (by kernel_rfl) (by kernel_rfl) hS0 ?_
  repeat (refine tree_q (by rfl) (by rfl) (fun K hK => ?_); go_simp; refine hK _ ?_; clear hK K)
  refine tree_a (by rfl) (by rfl) (fun K hK => ?_)
  go_simp
  refine hK _ _ (held_in HSS.out ⟨htop7, k77⟩) ?_
  clear hK K
  refine tree_nil ?_
  clear q0 q1 hS0 HSS hrun7' k4 k7 rd4
  have rd4 := k47.rd
  have hdiv := tdiv_in ht1 ht2 ht3
  go_wp2_with fail
  obtain ⟨lo, hlo⟩ : ∃ lo, lo = t.tdiv 64 := ⟨_, rfl⟩
  obtain ⟨hi, hhi⟩ : ∃ hi, hi = b.tdiv 64 := ⟨_, rfl⟩
  rw [← hlo, ← hhi] at hdiv
  rw [← hlo]
  obtain ⟨hd1, hd2, hd3⟩ := hdiv
  have hreach : ∀ q, reach q ⟨row, col, t, l, b, r⟩ = decide (lo ≤ q ∧ q ≤ hi) := fun q => by
    show decide (t.tdiv 64 ≤ q ∧ q ≤ b.tdiv 64) = _
    rw [← hlo, ← hhi]
  have HRE := Lib.hid hreach
  have hquo := hhi.symm
  clear hlo hhi hreach
  have hbgs : BG w7 mb nb n F (fun q => if lo ≤ q ∧ q < lo then (L.filter (reach q)).filter (fun x => decide (x ≠ ⟨row, col, t, l, b, r⟩)) else L.filter (reach q)) := hbg7.ext (fun q x => by rw [if_neg (by omega)])
  clear hbg7
  go_loopw [10] (fun s10 wr => ∃ (k : Int) (Fx : Int → Option Nat), lo ≤ k ∧ k ≤ hi + 1 ∧ s10 = .int .i64 k ∧ BG wr mb nb n Fx (fun q => if lo ≤ q ∧ q < k then (L.filter (reach q)).filter (fun x => decide (x ≠ ⟨row, col, t, l, b, r⟩)) else L.filter (reach q)) ∧
      PSet wr ma n (L.filter fun x => decide (x ≠ ⟨row, col, t, l, b, r⟩)) ∧ Blk wr bb 96 #[.map (some ma), .map (some mb)] ∧ Blk wr w.heap.size 51 #[.int .i64 t, .int .i64 l, .int .i64 b, .int .i64 r] ∧ Blk wr (w.heap.size + 1 + 1) 91 #[.int .i64 t, .int .i64 l, .int .i64 b, .int .i64 r, .int .i64 row, .int .i64 col] ∧ Hid (∀ q g, Fx q = some g → F q = some g) ∧ Frm (ownB bb ma mb F) w wr) (fun s10 _ => (hi + 1 - intOf s10).toNat)
  case atStart => exact ⟨lo, F, Int.le_refl _, by omega, rfl, hbgs, hset7, htop7, k47, k77, (show ∀ q g, F q = some g → _ from fun q g h => h), hF7⟩
  case round =>
    obtain ⟨k, Fx, hk1, hk2, rfl, hbg, hset, htop, k4, k7, HFX, hFr⟩ := hrel
    clear hbgs hset7 htop7 k47 k77 hF7 rd4 hg7
    have rd4 := k4.rd
    by_cases hkh : k ≤ hi
    · have hki : i64P k := by unfold i64P; omega
      have hwk : IntKind.i64.wrap (k + 1) = k + 1 := IntWalk.i64_in _ (by omega)
      obtain ⟨g, hFk⟩ : ∃ g, Fx k = some g := by
        cases hF : Fx k with
        | some g => exact ⟨g, rfl⟩
        | none =>
          have := hbg.non k hF
          rw [if_neg (by omega)] at this
          have hm : ⟨row, col, t, l, b, r⟩ ∈ L.filter (reach k) := List.mem_filter.2 ⟨HIN.out, by rw [HRE.out k]; exact decide_eq_true ⟨hk1, hkh⟩⟩
          rw [this] at hm
          simp at hm
      go_wp2_with fail
      have hbgd := hbg.below (bel_drew (bel_refl wr))
      have hgrp := hbgd.grp k g hFk
      rw [if_neg (by omega)] at hgrp
      obtain ⟨w9, hrun9, hset9, hg9⟩ := hgrp.del_run law_pair Try.underlying93 pairV_inj ⟨row, col, t, l, b, r⟩ HKL.out 0
      have hrun9' : (Builtin.delete_ #[93, 91] 0 #[.map (some g), .agg #[.int .i64 t, .int .i64 l, .int .i64 b, .int .i64 r, .int .i64 row, .int .i64 col]]).run Try.prog wr.drew = .ok (.tuple #[]) w9 := hrun9
      obtain ⟨S, hSS⟩ : ∃ S : World → Prop, S = fun w' => Blk w' bb 96 #[.map (some ma), .map (some mb)] ∧ Blk w' (w.heap.size + 1 + 1) 91 #[.int .i64 t, .int .i64 l, .int .i64 b, .int .i64 r, .int .i64 row, .int .i64 col] ∧ (Instr.lookup 94 (.map (some mb)) (.int .i64 k) false).run Try.prog w' = .ok (.map (some g)) w' := ⟨_, rfl⟩
      have q0 := fun x => (held_of hSS x).1.rd
      have q1 := fun x => (held_of hSS x).2.1.rd
      have q2 := fun x => (held_of hSS x).2.2
      have HSS := Lib.hid hSS
      have hS0 : S wr.drew := held_in HSS.out ⟨htop.drew, k7.drew, by rw [hbgd.look hki, hFk]⟩
      haveI : Nonempty (Held S) := ⟨⟨_, hS0⟩⟩
      have hneb := map_ne htop.drew hgrp
      have hgm := hbgd.ne k g hFk
      have hgma := h.nel k g (HFX.out k g hFk)
      have hbg9 := hbgd.delp hFk hg9 hset9
      have hl9 : (Instr.lookup 94 (.map (some mb)) (.int .i64 k) false).run Try.prog w9 = .ok (.map (some g)) w9 := by rw [hbg9.look hki, hFk]
      have hbx := hbg9.ext (G' := fun q => if lo ≤ q ∧ q < k + 1 then (L.filter (reach q)).filter (fun x => decide (x ≠ ⟨row, col, t, l, b, r⟩)) else L.filter (reach q)) (fun q x => by have hc := cut_at (p := ⟨row, col, t, l, b, r⟩) (L := L) (lo := lo) (k := k) hk1 q x; rw [if_neg (show ¬ (lo ≤ k ∧ k < k) by omega)] at hc; exact hc)
      obtain ⟨z, hz0, hlen⟩ := pset_len hset9 (fun p hp => (okP_rng (HMAY.out p (List.mem_filter.1 (List.mem_filter.1 hp).1).1)).2)
      have htop9 := htop.drew.grownX hg9 hneb
      have k79 := k7.drew.grownX hg9 (map_ne k7.drew hgrp)
      have k49 := k4.drew.grownX hg9 (map_ne k4.drew hgrp)
      have hset9' := (hset.below (bel_drew (bel_refl wr))).kept hg9 (by intro e; injection e with e; exact hgma e.symm)
      have hfr9 := hFr.drew.grown hg9 (fun z e => by injection e with e; subst e; exact .inl (.inr (.inr (.inr ⟨k, HFX.out k g hFk⟩))))
      have HBX := Lib.hid hbx
      have HL9 := Lib.hid hl9
      have HFK := Lib.hid hFk
      have HZ0 := Lib.hid hz0
      clear hSS hrun9 hbg9 hl9 hbx hgrp hbgd hFk hz0 rd4
      refine wp_region_tree (S := S) 8 (.q 0 <| .q 1 <| .q 2 <| .q 3 <| .q 4 <| .q 5 <| .q 6 <| .a 7 <| .done) [] (by kernel_rfl) (by kernel_rfl) hS0 ?_
      repeat (refine tree_q (by rfl) (by rfl) (fun K hK => ?_); go_simp; refine hK _ ?_; clear hK K)
      refine tree_a (by rfl) (by rfl) (fun K hK => ?_)
      go_simp
      refine hK _ _ (held_in HSS.out ⟨htop9, k79, HL9.out⟩) ?_
      clear hK K
      refine tree_nil ?_
      clear q0 q1 q2 hS0 HSS hrun9'
      have rd9 := htop9.rd
      have hl9 := HL9.out
      have hlen3 := hlen 3
      by_cases hz : z = 0
      · have hGk : (if lo ≤ k ∧ k < k + 1 then (L.filter (reach k)).filter (fun x => decide (x ≠ ⟨row, col, t, l, b, r⟩)) else L.filter (reach k)) = [] := by rw [if_pos (by omega)]; exact HZ0.out.1 hz
        obtain ⟨w10, hrun10, hbg10, hg10⟩ := HBX.out.drop hki hGk 0
        obtain ⟨F8, hF8e⟩ : ∃ F8 : Int → Option Nat, F8 = (fun q => if q = k then none else Fx q) := ⟨_, rfl⟩
        rw [← hF8e] at hbg10
        have hfx8 : ∀ q g, F8 q = some g → F q = some g := fun q g hq => by
          rw [hF8e] at hq
          dsimp only at hq
          by_cases e : q = k
          · rw [if_pos e] at hq
            cases hq
          · rw [if_neg e] at hq
            exact HFX.out q g hq
        have htop10 := htop9.grownX hg10 (band_ne htop9 HBX.out)
        have k710 := k79.grownX hg10 (band_ne k79 HBX.out)
        have k410 := k49.grownX hg10 (band_ne k49 HBX.out)
        have hset10 := hset9'.kept hg10 (by intro e; injection e with e; exact h.ne e)
        have hfr10 := hfr9.grown hg10 (fun z e => by injection e with e; exact .inl (.inr (.inr (.inl e.symm))))
        have HX8 := Lib.hid hfx8
        subst hz
        clear hGk hF8e hfx8
        go_wp2_with fail
        go_roundw
        case rel => exact ⟨k + 1, F8, by omega, by omega, by go_num, hbg10, hset10, htop10, k410, k710, HX8, hfr10⟩
        case measure => simp [intOf]; omega
      · have bz : ((z : Int) == 0) = false := by rw [beq_eq_false_iff_ne]; omega
        go_wp2_with fail
        go_roundw
        case rel => exact ⟨k + 1, Fx, by omega, by omega, by go_num, HBX.out, hset9', htop9, k49, k79, HFX, hfr9⟩
        case measure => simp [intOf]; omega
    · obtain rfl : k = hi + 1 := by omega
      go_wp2_with fail
      go_ret
      refine ⟨Fx, rfl, ⟨htop, hset, hbg.ext (fun q x => ?_), h.ne, fun q g hq => h.nel q g (HFX.out q g hq), fun p hp => h.may p (List.mem_filter.1 hp).1⟩, hFr, HFX.out⟩
      by_cases e : lo ≤ q ∧ q ≤ hi
      · rw [if_pos (by omega)]
        simp only [List.mem_filter]
        exact ⟨fun h => ⟨⟨h.1.1, h.2⟩, h.1.2⟩, fun h => ⟨⟨h.1.1, h.2⟩, h.1.2⟩⟩
      · rw [if_neg (by omega), List.filter_filter, List.mem_filter, List.mem_filter]
        constructor
        · rintro ⟨h1, h2⟩
          refine ⟨h1, ?_⟩
          rw [h2, Bool.true_and]
          refine decide_eq_true ?_
          rintro rfl
          rw [HRE.out q] at h2
          exact e (of_decide_eq_true h2)
        · rintro ⟨h1, h2⟩
          rw [Bool.and_eq_true] at h2
          exact ⟨h1, h2.1⟩
end Go.Proofs.Ytdionganlmnlkaa
namespace Go.Proofs.Ytdionganlmnlkaa
open Go.ChangeShapes Go.WideShapes Go.ChangeAt Go.RowKit Go.Deep

def cmpI (a b : Int) : Int := if a < b then -1 else if b < a then 1 else 0
theorem nan_any (a : Int) (w : World) : Calls Try.prog 53 #[.int .i64 a] w fun e w' => e = .returned (.bool false) ∧ w = w' := by
  go_enter Try.func53, Try.ntmps53
  go_wp2_with fail
  go_ret
  exact ⟨by simp, rfl⟩
theorem compare_any (a b : Int) (w : World) : Calls Try.prog 37 #[.int .i64 a, .int .i64 b] w fun e w' => e = .returned (.int .i64 (cmpI a b)) ∧ w = w' := by
  by_cases h1 : a < b
  · rw [show cmpI a b = -1 from if_pos h1]
    have d1 : decide (a < b) = true := decide_eq_true h1
    go_enter Try.func37, Try.ntmps37
    go_wp2_with fail
    refine (nan_any _ _).mono ?_
    rintro e w' ⟨rfl, rfl⟩
    go_wp2_with fail
    refine (nan_any _ _).mono ?_
    rintro e w' ⟨rfl, rfl⟩
    go_wp2_with fail
    go_ret
    exact ⟨rfl, rfl⟩
  · have d1 : decide (a < b) = false := decide_eq_false h1
    by_cases h2 : b < a
    · rw [show cmpI a b = 1 from (if_neg h1).trans (if_pos h2)]
      have d2 : decide (b < a) = true := decide_eq_true h2
      go_enter Try.func37, Try.ntmps37
      go_wp2_with fail
      refine (nan_any _ _).mono ?_
      rintro e w' ⟨rfl, rfl⟩
      go_wp2_with fail
      refine (nan_any _ _).mono ?_
      rintro e w' ⟨rfl, rfl⟩
      go_wp2_with fail
      go_ret
      exact ⟨rfl, rfl⟩
    · rw [show cmpI a b = 0 from (if_neg h1).trans (if_neg h2)]
      have d2 : decide (b < a) = false := decide_eq_false h2
      go_enter Try.func37, Try.ntmps37
      go_wp2_with fail
      refine (nan_any _ _).mono ?_
      rintro e w' ⟨rfl, rfl⟩
      go_wp2_with fail
      refine (nan_any _ _).mono ?_
      rintro e w' ⟨rfl, rfl⟩
      go_wp2_with fail
      go_ret
      exact ⟨rfl, rfl⟩
/-- The first that is not zero. -/
def orI : List Int → Int
  | [] => 0
  | x :: l => if x = 0 then orI l else x
theorem orI_drop {l : List Int} {i : Nat} {x : Int} (h : l[i]? = some x) : orI (l.drop i) = if x = 0 then orI (l.drop (i + 1)) else x := by
  obtain ⟨hk, e⟩ := List.getElem?_eq_some_iff.1 h
  rw [List.drop_eq_getElem_cons hk, e]
  rfl
theorem or_any (l : List Int) (g cap : Nat) (w : World) (hl : l.length ≤ 100) (h : ∀ (i : Nat) x, l[i]? = some x → w.cell? ⟨g, i, none⟩ = some (.int .i64 x)) :
    Calls Try.prog 36 #[.slice (some ⟨g, 0, none⟩) l.length cap] w fun e w' => e = .returned (.int .i64 (orI l)) ∧ w = w' := by
  obtain ⟨R, hR⟩ : ∃ R, R = orI l := ⟨_, rfl⟩
  rw [← hR]
  have HR := Lib.hid hR
  have HH := Lib.hid h
  clear hR h
  go_enter Try.func36, Try.ntmps36
  go_wp2_with fail
  go_loopw [8] (fun s wr => ∃ i : Nat, i ≤ l.length ∧ s = .int .i64 i ∧ Hid (R = orI (l.drop i)) ∧ wr = w) (fun s _ => l.length - (intOf s).toNat)
  case atStart => exact ⟨0, Nat.zero_le _, rfl, (show R = orI (l.drop 0) from HR.out), by first | trivial | rfl⟩
  case round =>
    obtain ⟨i, hi, rfl, HI, hw⟩ := hrel
    obtain rfl := hw.symm
    by_cases hil : i < l.length
    · obtain ⟨x, hx⟩ : ∃ x, l[i]? = some x := ⟨_, List.getElem?_eq_getElem hil⟩
      have hc := HH.out i x hx
      have HX := Lib.hid (HI.out.trans (orI_drop hx))
      clear hx
      have i0 : (0 : Int) ≤ (i : Int) := by omega
      have i1 : (i : Int) < (l.length : Int) := by omega
      by_cases hx0 : x = 0
      · have HN : Hid (R = orI (l.drop (i + 1))) := HX.out.trans (if_pos hx0)
        have b0 : (x != 0) = false := by rw [bne_eq_false_iff_eq]; exact hx0
        clear hx0
        go_wp2_with fail
        go_roundw
        case rel => exact ⟨i + 1, by omega, by go_num, HN, by first | trivial | rfl⟩
        case measure => simp [intOf]; omega
      · have HN : Hid (R = x) := HX.out.trans (if_neg hx0)
        have b0 : (x != 0) = true := by rw [bne_iff_ne]; exact hx0
        clear hx0
        go_wp2_with fail
        go_ret
        exact ⟨by rw [HN.out]; rfl, rfl⟩
    · have HN : Hid (R = 0) := HI.out.trans (by rw [List.drop_eq_nil_of_le (by omega)]; rfl)
      obtain rfl : i = l.length := by omega
      go_wp2_with fail
      go_ret
      exact ⟨by rw [HN.out]; rfl, rfl⟩

/-- Draws and blocks behind a world. -/
def Gw (w w' : World) : Prop := ∃ q os', w' = Sort.grow (w.drewN q) os'
theorem gw_refl (w : World) : Gw w w := ⟨0, #[], by rw [Sort.grow_empty]; rfl⟩
theorem gw_alloc {a w : World} (h : Gw a w) (o : Obj) : Gw a (w.alloc o) := by
  obtain ⟨q, os, rfl⟩ := h
  exact ⟨q, os ++ #[o], by rw [Sort.alloc_eq_grow, Sort.grow_grow]⟩
theorem gw_drew {a w : World} (h : Gw a w) : Gw a w.drew := by
  obtain ⟨q, os, rfl⟩ := h
  exact ⟨q + 1, os, rfl⟩
theorem gw_trans {a w w' : World} (h : Gw a w) (k : Gw w w') : Gw a w' := by
  obtain ⟨q, os, rfl⟩ := h
  obtain ⟨q', os', rfl⟩ := k
  refine ⟨q + q', os ++ os', ?_⟩
  rw [← Sort.grow_grow]
  congr 1
  simp only [Sort.grow, World.drewN]
  congr 1
  omega
theorem gw_bel {a w : World} (h : Gw a w) : Below a.heap.size a w := by
  obtain ⟨q, os, rfl⟩ := h
  exact ⟨rfl, rfl, rfl, by simp [Sort.grow, World.drewN], fun k hk => by simp [Sort.grow, World.drewN, Array.getElem?_append, hk]⟩
/-- Row by row. -/
def rowI (a b c d : Int) : Int := orI [cmpI a c, cmpI b d]
theorem rowI_is (a b c d : Int) : rowI a b c d = if cmpI a c = 0 then cmpI b d else cmpI a c := by
  unfold rowI orI
  by_cases h : cmpI a c = 0
  · rw [if_pos h, if_pos h]
    unfold orI
    by_cases h2 : cmpI b d = 0
    · rw [if_pos h2, h2]
      rfl
    · rw [if_neg h2]
  · rw [if_neg h, if_neg h]
attribute [local go_sem] Cls
set_option maxHeartbeats 1600000 in
theorem row_any (a b c d : Int) (w : World) : Calls Try.prog 60 #[.agg #[.int .i64 a, .int .i64 b], .agg #[.int .i64 c, .int .i64 d]] w fun e w' => e = .returned (.int .i64 (rowI a b c d)) ∧ Gw w w' := by
  obtain ⟨R, hR⟩ : ∃ R, R = rowI a b c d := ⟨_, rfl⟩
  rw [← hR]
  have HR := Lib.hid hR
  clear hR
  go_enter Try.func60, Try.ntmps60
  go_wp2_with fail
  have hB3 := gw_alloc (gw_alloc (gw_refl w) (.cells #[.int .i64 a, .int .i64 b] 32)) (.cells #[.int .i64 c, .int .i64 d] 32)
  have k2 := (Blk.new w rfl 32 #[.int .i64 a, .int .i64 b]).alloc (.cells #[.int .i64 c, .int .i64 d] 32)
  have k3 := Blk.new (w.alloc (.cells #[.int .i64 a, .int .i64 b] 32)) (g := w.heap.size + 1) (by simp) 32 #[.int .i64 c, .int .i64 d]
  generalize hwz : (w.alloc (.cells #[.int .i64 a, .int .i64 b] 32)).alloc (.cells #[.int .i64 c, .int .i64 d] 32) = w3 at hB3 k2 k3 ⊢
  clear hwz
  obtain ⟨S, hSS⟩ : ∃ S : World → Prop, S = fun w' => Blk w' w.heap.size 32 #[.int .i64 a, .int .i64 b] ∧ Blk w' (w.heap.size + 1) 32 #[.int .i64 c, .int .i64 d] := ⟨_, rfl⟩
  have q0 := fun x => (held_of hSS x).1.rd
  have q1 := fun x => (held_of hSS x).2.rd
  have HSS := Lib.hid hSS
  have hS0 : S w3.drew := held_in HSS.out ⟨k2.drew, k3.drew⟩
  haveI : Nonempty (Held S) := ⟨⟨_, hS0⟩⟩
  clear hSS
  refine wp_region_tree (S := S) 13 (.q 0 <| .q 1 <| .q 2 <| .q 3 <| .q 5 <| .q 6 <| .q 7 <| .q 8 <| .a 4 <| .a 9 <| .a 10 <| .a 11 <| .q 12 <| .done) [] (by kernel_rfl) (by kernel_rfl) hS0 ?_
  repeat (refine tree_q (by rfl) (by rfl) (fun K hK => ?_); go_simp; refine hK _ ?_; clear hK K)
  refine tree_a (by rfl) (by rfl) (fun K hK => ?_)
  go_simp
  refine (compare_any a c _).mono ?_
  rintro e w' ⟨rfl, rfl⟩
  refine hK _ _ hS0 ?_
  clear hK K
  refine tree_a (by rfl) (by rfl) (fun K hK => ?_)
  go_simp
  refine (compare_any b d _).mono ?_
  rintro e w' ⟨rfl, rfl⟩
  refine hK _ _ hS0 ?_
  clear hK K
  obtain ⟨x, hx⟩ : ∃ x, x = cmpI a c := ⟨_, rfl⟩
  obtain ⟨y, hy⟩ : ∃ y, y = cmpI b d := ⟨_, rfl⟩
  have HROW : Hid (R = orI [x, y]) := HR.out.trans (by rw [hx, hy]; rfl)
  rw [← hx, ← hy]
  clear hx hy
  refine tree_a (by rfl) (by rfl) (fun K hK => ?_)
  go_simp
  have hS1 : S (w3.alloc (.cells #[.int .i64 x, .int .i64 y] 3)).drew := held_in HSS.out ⟨(k2.alloc _).drew, (k3.alloc _).drew⟩
  refine hK _ _ hS1 ?_
  clear hK K
  have kl := (Blk.new w3 rfl 3 #[.int .i64 x, .int .i64 y]).drew
  refine tree_a (by rfl) (by rfl) (fun K hK => ?_)
  go_simp
  refine (or_any [x, y] w3.heap.size 2 _ (by simp) (fun i z hz => ?_)).mono ?_
  · rw [kl.rd]
    match i, hz with
    | 0, hz => simpa using hz
    | 1, hz => simpa using hz
    | i + 2, hz => simp at hz
  rintro e w' ⟨rfl, rfl⟩
  refine hK _ _ hS1 ?_
  clear hK K
  repeat (refine tree_q (by rfl) (by rfl) (fun K hK => ?_); go_simp; refine hK _ ?_; clear hK K)
  refine tree_nil ?_
  clear q0 q1 hS0 hS1 HSS
  go_wp2_with fail
  go_ret
  exact ⟨by rw [HROW.out]; rfl, gw_trans hB3 (gw_drew (gw_alloc (gw_refl w3) _))⟩
end Go.Proofs.Ytdionganlmnlkaa
namespace Go.Proofs.Ytdionganlmnlkaa
open Go.ChangeShapes Go.WideShapes Go.ChangeAt Go.RowKit Go.Deep
attribute [local go_sem] Cls

section
variable {w : World} {L : List Pr} {A : Option Addr}
theorem edge_at (h : Lies KE w A L) {i : Nat} {x : Pr} (hx : L[i]? = some x) : ∃ g off, A = some ⟨g, off, none⟩ ∧ g < w.heap.size ∧ w.cell? ⟨g, off + i * 7, none⟩ = some (.int .i64 x.row) ∧ w.cell? ⟨g, off + i * 7 + 1, none⟩ = some (.int .i64 x.col) ∧ w.cell? ⟨g, off + i * 7 + 2, none⟩ = some (.bool true) ∧ w.cell? ⟨g, off + i * 7 + 3, none⟩ = some (.int .i64 x.t) ∧ w.cell? ⟨g, off + i * 7 + 4, none⟩ = some (.int .i64 x.l) ∧ w.cell? ⟨g, off + i * 7 + 5, none⟩ = some (.int .i64 x.b) ∧ w.cell? ⟨g, off + i * 7 + 6, none⟩ = some (.int .i64 x.r) := by
  obtain ⟨g, off, h1, h2, h3⟩ := h i x hx
  exact ⟨g, off, h1, h2, h3 0 _ rfl, h3 1 _ rfl, h3 2 _ rfl, h3 3 _ rfl, h3 4 _ rfl, h3 5 _ rfl, h3 6 _ rfl⟩
end

def edgeI (x y : Pr) : Int := orI [rowI x.row x.col y.row y.col, cmpI x.t y.t, cmpI x.l y.l, cmpI x.b y.b, cmpI x.r y.r]
theorem cmp_neg (a b : Int) : (cmpI a b < 0 ↔ a < b) ∧ (cmpI a b = 0 ↔ a = b) := by
  unfold cmpI
  by_cases h1 : a < b
  · rw [if_pos h1]
    omega
  · rw [if_neg h1]
    by_cases h2 : b < a
    · rw [if_pos h2]
      omega
    · rw [if_neg h2]
      omega
theorem or_neg (x : Int) (l : List Int) : (orI (x :: l) < 0 ↔ x < 0 ∨ x = 0 ∧ orI l < 0) ∧ (orI (x :: l) = 0 ↔ x = 0 ∧ orI l = 0) := by
  have h : orI (x :: l) = if x = 0 then orI l else x := rfl
  rw [h]
  by_cases e : x = 0
  · rw [if_pos e]
    omega
  · rw [if_neg e]
    omega
/-- It tells the pairs' order. -/
theorem edgeI_lt (x y : Pr) : edgeI x y < 0 ↔ ltP x y := by
  unfold edgeI rowI ltP
  have hn : ¬ orI [] < 0 := by decide
  simp only [(or_neg _ _).1, (or_neg _ _).2, (cmp_neg _ _).1, (cmp_neg _ _).2, hn]
  have h0 : orI [] = 0 := rfl
  simp only [h0, and_false, or_false, and_true]
  omega

end Go.Proofs.Ytdionganlmnlkaa

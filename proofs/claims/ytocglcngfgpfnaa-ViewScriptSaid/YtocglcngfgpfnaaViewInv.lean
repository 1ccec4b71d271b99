/-
  Plain lemmas on the state of a Views (which handles are open, how many; what a view shows), and one contract of Rect for every handle. Conditions: those of each theorem.
-/
import Derived.Test.YtocglcngfgpfnaaView5
namespace Go.Proofs.Ytocglcngfgpfnaa
open Go.ChangeShapes Go.WideShapes Go.ChangeAt Go.RowKit Go.Deep

def ocount (most : Int) (s : Nat → Vw) : Nat → Nat
  | 0 => 0
  | k + 1 => ocount most s k + (isOpen most s k).toNat

structure SInv (most cnt : Int) (s : Nat → Vw) : Prop where
  hm : 1 ≤ most ∧ most ≤ 16
  hc : cnt = ocount most s 18
  good : ∀ h : Nat, isOpen most s h = true → mayB (s h).r (s h).c = true ∧ 1 ≤ (s h).m ∧ 1 ≤ (s h).n ∧ (s h).m ≤ 4096 ∧ (s h).n ≤ 256

theorem isOpen_range {most : Int} {s : Nat → Vw} {h : Int} (ho : isOpen most s h = true) : 1 ≤ h ∧ h ≤ most := by
  simp [isOpen] at ho
  omega

theorem ocount_le (most : Int) (s : Nat → Vw) (h0 : 0 ≤ most) : ∀ k, (ocount most s k : Int) ≤ most ∧ ocount most s k ≤ k - 1
  | 0 => by simp [ocount]; omega
  | k + 1 => by
    have ih := ocount_le most s h0 k
    unfold ocount
    cases h : isOpen most s k with
    | true =>
      have := isOpen_range h
      simp only [Bool.toNat_true]
      omega
    | false =>
      simp only [Bool.toNat_false]
      omega

theorem SInv.bound {most cnt : Int} {s : Nat → Vw} (h : SInv most cnt s) : 0 ≤ cnt ∧ cnt ≤ most ∧ cnt ≤ 16 := by
  have h1 := (ocount_le most s (by have := h.hm; omega) 18).1
  have h2 := h.hm
  have h3 := h.hc
  omega

theorem ocount_full (most : Int) (s : Nat → Vw) (hall : ∀ j : Nat, (j : Int) < most → isOpen most s ((j : Int) + 1) = true) (h0 : 0 ≤ most) : ∀ k : Nat, 1 ≤ k → (ocount most s k : Int) = min ((k : Int) - 1) most
  | 0, h => by omega
  | 1, _ => by
    have : isOpen most s 0 = false := by simp [isOpen]
    simp [ocount, this]
    omega
  | k + 2, _ => by
    have ih := ocount_full most s hall h0 (k + 1) (by omega)
    unfold ocount
    rw [show ((k + 1 : Nat) : Int) = (k : Int) + 1 by omega] at ih ⊢
    by_cases h : ((k : Int) < most)
    · rw [hall k h]
      simp only [Bool.toNat_true]
      omega
    · have : isOpen most s ((k : Int) + 1) = false := by
        simp [isOpen]
        omega
      rw [this]
      simp only [Bool.toNat_false]
      omega

theorem isOpen_upd_ne (most : Int) (s : Nat → Vw) (n : Nat) (v : Vw) {h : Int} (hne : h ≠ n) (h0 : 0 ≤ h) : isOpen most (upd s n v) h = isOpen most s h := by
  have e : ¬ h.toNat = n := by omega
  simp [isOpen, upd, e]
theorem isOpen_neg (most : Int) (s : Nat → Vw) {h : Int} (h0 : h < 1) : isOpen most s h = false := by
  simp [isOpen]
  omega

theorem ocount_upd (most : Int) (s : Nat → Vw) (n : Nat) (v : Vw) : ∀ k : Nat,
    ocount most (upd s n v) k + (if n < k then (isOpen most s n).toNat else 0) = ocount most s k + (if n < k then (isOpen most (upd s n v) n).toNat else 0)
  | 0 => by simp [ocount]
  | k + 1 => by
    have ih := ocount_upd most s n v k
    unfold ocount
    by_cases h : k = n
    · subst h
      rw [if_neg (by omega), if_neg (by omega)] at ih
      rw [if_pos (by omega), if_pos (by omega)]
      omega
    · have e := isOpen_upd_ne most s n v (h := (k : Int)) (by omega) (by omega)
      rw [e]
      by_cases hlt : n < k
      · rw [if_pos hlt, if_pos hlt] at ih
        rw [if_pos (by omega), if_pos (by omega)]
        omega
      · rw [if_neg hlt, if_neg hlt] at ih
        rw [if_neg (by omega), if_neg (by omega)]
        omega

/-- What a view shows; zeros: it is not open. -/
def rectv (most : Int) (s : Nat → Vw) (h : Int) : Vw :=
  if isOpen most s h = true then ⟨(s h.toNat).r, (s h.toNat).c, min 4096 ((s h.toNat).r + (s h.toNat).m - 1), min 256 ((s h.toNat).c + (s h.toNat).n - 1)⟩ else ⟨0, 0, 0, 0⟩
def gcode (most : Int) (s : Nat → Vw) (h : Int) : Int := if isOpen most s h = true then 0 else 4

theorem rect_any (b : Nat) (most cnt : Int) (s : Nat → Vw) (h : Int) (w : World) (hR : VIs w b most cnt s) (hI : SInv most cnt s) :
    Calls Try.prog 11 #[.pointer (some ⟨b, 0, none⟩), .int .i64 h] w fun e w' =>
      e = .returned (.tuple #[.agg #[.int .i64 (rectv most s h).r, .int .i64 (rectv most s h).c, .int .i64 (rectv most s h).m, .int .i64 (rectv most s h).n], .int .i64 (gcode most s h)]) ∧ Below w.heap.size w w' := by
  cases ho : isOpen most s h with
  | true =>
    have hr := isOpen_range ho
    obtain ⟨n, rfl⟩ := Int.eq_ofNat_of_zero_le (show 0 ≤ h by omega)
    obtain ⟨g1, g2, g3, g4, g5⟩ := hI.good n ho
    have := rect_yes b most cnt s (n : Int) w hR hI.hm.2 ho (by simpa using g1) (by simpa using g2) (by simpa using g3) (by simpa using g4) (by simpa using g5)
    unfold rectv gcode
    rw [if_pos ho, if_pos ho]
    exact this
  | false =>
    have := rect_no b most cnt s h w hR hI.hm.2 ho
    unfold rectv gcode
    rw [if_neg (by simp [ho]), if_neg (by simp [ho])]
    exact this

/-! The state behind each deed. -/
theorem SInv.new (most : Int) (h : 1 ≤ most ∧ most ≤ 16) : SInv most 0 F0 := by
  have hno : ∀ h : Int, isOpen most F0 h = false := fun h => by simp [isOpen, F0]
  have hz : ∀ k, ocount most F0 k = 0 := by
    intro k
    induction k with
    | zero => rfl
    | succ k ih => simp [ocount, ih, hno]
  exact ⟨h, by rw [hz]; rfl, fun h ho => by rw [hno] at ho; cases ho⟩

theorem SInv.opened {most cnt : Int} {s : Nat → Vw} (hI : SInv most cnt s) {r1 c1 r2 c2 : Int} (h1 : mayB r1 c1 = true) (h2 : mayB r2 c2 = true) (n : Nat) (hn : (n : Int) < most) (hno : isOpen most s ((n : Int) + 1) = false) :
    SInv most (cnt + 1) (upd s (n + 1) ⟨min r1 r2, min c1 c2, max r1 r2 - min r1 r2 + 1, max c1 c2 - min c1 c2 + 1⟩) := by
  have b1 := mayB_true h1
  have b2 := mayB_true h2
  have hm := hI.hm
  refine ⟨hm, ?_, ?_⟩
  · have h3 := ocount_upd most s (n + 1) ⟨min r1 r2, min c1 c2, max r1 r2 - min r1 r2 + 1, max c1 c2 - min c1 c2 + 1⟩ 18
    have h4 : isOpen most (upd s (n + 1) ⟨min r1 r2, min c1 c2, max r1 r2 - min r1 r2 + 1, max c1 c2 - min c1 c2 + 1⟩) ((n + 1 : Nat) : Int) = true := by
      simp [isOpen, upd]
      omega
    have h5 : isOpen most s ((n + 1 : Nat) : Int) = false := by simpa using hno
    rw [if_pos (by omega), if_pos (by omega), h4, h5] at h3
    simp only [Bool.toNat_true, Bool.toNat_false] at h3
    have := hI.hc
    omega
  · intro h ho
    by_cases e : h = n + 1
    · subst e
      rw [upd_same]
      refine ⟨by simp [mayB]; omega, by show 1 ≤ max r1 r2 - min r1 r2 + 1; omega, by show 1 ≤ max c1 c2 - min c1 c2 + 1; omega, by show max r1 r2 - min r1 r2 + 1 ≤ 4096; omega, by show max c1 c2 - min c1 c2 + 1 ≤ 256; omega⟩
    · rw [isOpen_upd_ne _ _ _ _ (by omega) (by omega)] at ho
      simp only [upd, e, if_false]
      exact hI.good h ho

theorem SInv.moved {most cnt : Int} {s : Nat → Vw} (hI : SInv most cnt s) {r c h : Int} (hmay : mayB r c = true) (ho : isOpen most s h = true) :
    SInv most cnt (upd s h.toNat { s h.toNat with r := r, c := c }) := by
  have hr := isOpen_range ho
  obtain ⟨n, rfl⟩ := Int.eq_ofNat_of_zero_le (show 0 ≤ h by omega)
  simp only [Int.toNat_natCast]
  have e : isOpen most (upd s n { s n with r := r, c := c }) n = isOpen most s n := by simp [isOpen, upd]
  refine ⟨hI.hm, ?_, ?_⟩
  · have h3 := ocount_upd most s n { s n with r := r, c := c } 18
    rw [e] at h3
    have h4 := Nat.add_right_cancel h3
    rw [h4]
    exact hI.hc
  · intro k hk
    by_cases ek : k = n
    · subst ek
      rw [upd_same]
      rw [e] at hk
      obtain ⟨_, g⟩ := hI.good k hk
      exact ⟨hmay, g⟩
    · rw [isOpen_upd_ne _ _ _ _ (by omega) (by omega)] at hk
      simp only [upd, ek, if_false]
      exact hI.good k hk

theorem SInv.closed {most cnt : Int} {s : Nat → Vw} (hI : SInv most cnt s) {h : Int} (ho : isOpen most s h = true) :
    SInv most (cnt - 1) (upd s h.toNat ⟨0, 0, 0, 0⟩) := by
  have hr := isOpen_range ho
  have hm := hI.hm
  obtain ⟨n, rfl⟩ := Int.eq_ofNat_of_zero_le (show 0 ≤ h by omega)
  simp only [Int.toNat_natCast]
  refine ⟨hI.hm, ?_, ?_⟩
  · have h3 := ocount_upd most s n ⟨0, 0, 0, 0⟩ 18
    have h4 : isOpen most (upd s n ⟨0, 0, 0, 0⟩) (n : Int) = false := by simp [isOpen, upd]
    rw [if_pos (by omega), if_pos (by omega), h4, ho] at h3
    simp only [Bool.toNat_true, Bool.toNat_false] at h3
    have := hI.hc
    omega
  · intro k hk
    by_cases ek : k = n
    · subst ek
      simp [isOpen, upd] at hk
    · rw [isOpen_upd_ne _ _ _ _ (by omega) (by omega)] at hk
      simp only [upd, ek, if_false]
      exact hI.good k hk

/-- Another handle's view shows what it showed. -/
theorem rectv_upd_ne (most : Int) (s : Nat → Vw) (n : Nat) (v : Vw) {h : Int} (hne : h ≠ n) (h0 : 0 ≤ h) : rectv most (upd s n v) h = rectv most s h := by
  have e : ¬ h.toNat = n := by omega
  unfold rectv
  rw [isOpen_upd_ne _ _ _ _ hne h0]
  simp [upd, e]
end Go.Proofs.Ytocglcngfgpfnaa

/-
  Formulas: contracts of Check and Depth, the program's and the document's. Conditions: the numbers are 64-bit integers.
-/
import Derived.Test.YtifmfkofadhieaaRDepth
import Derived.Test.YtifmfkofadhieaaRPut
namespace Go.Proofs.Ytifmfkofadhieaa
open Go.ChangeShapes Go.WideShapes Go.ChangeAt Go.RowKit Go.Deep

def chkI : Option Nat → Int
  | some d => if 32 < d then 20 else 0
  | none => 20
def depI : Option Nat → Int
  | some d => d
  | none => 0

section
variable (Ns : List Nd) (A : Option Addr) (cap : Nat) (w : World)
theorem pdepth_any (hA : Lies KN w A Ns) (hN : ∀ n, n ∈ Ns → rngN n) :
    Calls Try.prog 16 #[.agg #[.slice A Ns.length cap]] w fun e w' => e = .returned (.int .i64 (depI (depthN Ns))) ∧ Below w.heap.size w w' := by
  have hd := fun W hW => depth_any Ns A cap W hW hN
  obtain ⟨D, hD⟩ : ∃ D, D = depthN Ns := ⟨_, rfl⟩
  rw [← hD] at hd ⊢
  clear hD hN
  cases D with
  | none =>
    go_enter Try.func16, Try.ntmps16
    go_wp2_with fail
    refine (hd _ (hA.below (bel_alloc (bel_refl w) _))).mono ?_
    rintro e w1 ⟨rfl, hb⟩
    have hw := bel_call (bel_alloc (bel_refl w) _) hb
    clear hb
    unfold depV
    go_wp2_with fail
    go_ret
    exact ⟨rfl, hw⟩
  | some d =>
    go_enter Try.func16, Try.ntmps16
    go_wp2_with fail
    refine (hd _ (hA.below (bel_alloc (bel_refl w) _))).mono ?_
    rintro e w1 ⟨rfl, hb⟩
    have hw := bel_call (bel_alloc (bel_refl w) _) hb
    clear hb
    unfold depV
    go_wp2_with fail
    go_ret
    exact ⟨rfl, hw⟩
theorem pcheck_any (hA : Lies KN w A Ns) (hN : ∀ n, n ∈ Ns → rngN n) :
    Calls Try.prog 11 #[.agg #[.slice A Ns.length cap]] w fun e w' => e = .returned (.int .i64 (chkI (depthN Ns))) ∧ Below w.heap.size w w' := by
  have hd := fun W hW => depth_any Ns A cap W hW hN
  obtain ⟨D, hD⟩ : ∃ D, D = depthN Ns := ⟨_, rfl⟩
  rw [← hD] at hd ⊢
  clear hD hN
  cases D with
  | none =>
    go_enter Try.func11, Try.ntmps11
    go_wp2_with fail
    refine (hd _ (hA.below (bel_alloc (bel_refl w) _))).mono ?_
    rintro e w1 ⟨rfl, hb⟩
    have hw := bel_call (bel_alloc (bel_refl w) _) hb
    clear hb
    unfold depV
    go_wp2_with fail
    go_ret
    exact ⟨rfl, hw⟩
  | some d =>
    by_cases h : 32 < d
    · rw [show chkI (some d) = 20 from if_pos h]
      have b1 : decide ((32 : Int) < (d : Int)) = true := by simp; omega
      go_enter Try.func11, Try.ntmps11
      go_wp2_with fail
      refine (hd _ (hA.below (bel_alloc (bel_refl w) _))).mono ?_
      rintro e w1 ⟨rfl, hb⟩
      have hw := bel_call (bel_alloc (bel_refl w) _) hb
      clear hb
      unfold depV
      go_wp2_with fail
      go_ret
      exact ⟨rfl, hw⟩
    · rw [show chkI (some d) = 0 from if_neg h]
      have b1 : decide ((32 : Int) < (d : Int)) = false := by simp; omega
      go_enter Try.func11, Try.ntmps11
      go_wp2_with fail
      refine (hd _ (hA.below (bel_alloc (bel_refl w) _))).mono ?_
      rintro e w1 ⟨rfl, hb⟩
      have hw := bel_call (bel_alloc (bel_refl w) _) hb
      clear hb
      unfold depV
      go_wp2_with fail
      go_ret
      exact ⟨rfl, hw⟩
theorem part_at0 {B : Nat} {v : Value} {st : List Pt} (h : OL KR w B v st) : ∃ A cap, v = .slice A st.length cap ∧ ∀ p, st = [p] → ∃ g off, A = some ⟨g, off, none⟩ ∧ w.cell? ⟨g, off, none⟩ = some (.int .i64 p.d) ∧ w.cell? ⟨g, off + 1, none⟩ = some (.int .i64 p.bi) ∧ w.cell? ⟨g, off + 2, none⟩ = some (.bool p.m) := by
  obtain ⟨A, cap, hv, _, _, hL, _⟩ := h.see
  refine ⟨A, cap, hv, fun p hp => ?_⟩
  subst hp
  obtain ⟨g, off, h1, _, c0, c1, c2⟩ := part_at hL (i := 0) (p := p) rfl
  rw [Nat.zero_mul, Nat.add_zero] at c0 c1 c2
  exact ⟨g, off, h1, c0, c1, c2⟩
theorem rdepth_any (hA : Lies KN w A Ns) (hN : ∀ n, n ∈ Ns → rngN n) :
    Calls Try.prog 17 #[.agg #[.slice A Ns.length cap]] w fun e w' => e = .returned (.int .i64 (depI (depthN Ns))) ∧ Below w.heap.size w w' := by
  obtain ⟨D, hD⟩ : ∃ D, D = depthN Ns := ⟨_, rfl⟩
  rw [← hD]
  have HD := Lib.hid hD
  have HN := Lib.hid hN
  clear hD hN
  by_cases hs : Ns.length < 1 ∨ 1024 < Ns.length
  · have HF : Hid (D = none) := HD.out.trans (depth_size hs)
    rcases hs with hs | hs
    all_goals
      go_enter Try.func17, Try.ntmps17
      go_wp2_with fail
      go_ret
      exact ⟨by rw [HF.out]; rfl, bel_alloc (bel_refl w) _⟩
  have h1 : 1 ≤ Ns.length := by omega
  have h2 : Ns.length ≤ 1024 := by omega
  have HS := Lib.hid hs
  clear hs
  go_enter Try.func17, Try.ntmps17
  go_wp2_with fail
  refine (put_any Ns A cap _ (hA.below (bel_alloc (bel_refl w) _)) HN.out h2).mono ?_
  rintro e w1 ⟨hp, hb⟩
  have hw := bel_call (bel_alloc (bel_refl w) _) hb
  clear hb
  rcases hp with ⟨st, v, hr, hg, rfl, hO⟩ | ⟨hr, rfl⟩
  · obtain ⟨AX, cx, rfl, hx⟩ := part_at0 w1 hO
    have HX := Lib.hid hx
    have HR := Lib.hid hr
    clear hx hr
    by_cases hl1 : st.length = 1
    · obtain ⟨p, hp⟩ : ∃ p, st = [p] := List.length_eq_one_iff.1 hl1
      obtain ⟨g, off, rfl, c0, c1, c2⟩ := HX.out p hp
      subst hp
      obtain ⟨pd, pb, pm⟩ := p
      dsimp only at c0 c1 c2
      have HRR := Lib.hid (depth_one HS.out HR.out)
      cases pm with
      | true =>
        have HF : Hid (D = none) := HD.out.trans HRR.out
        go_wp2_with fail
        go_ret
        exact ⟨by rw [HF.out]; rfl, hw⟩
      | false =>
        have HF : Hid (D = some pd) := HD.out.trans HRR.out
        go_wp2_with fail
        go_ret
        exact ⟨by rw [HF.out]; rfl, hw⟩
    · have HF : Hid (D = none) := HD.out.trans (depth_many HS.out HR.out hl1)
      have b1 : ((st.length : Int) != 1) = true := by rw [bne_iff_ne]; omega
      go_wp2_with fail
      go_ret
      exact ⟨by rw [HF.out]; rfl, hw⟩
  · have HF : Hid (D = none) := HD.out.trans (depth_run HS.out hr)
    clear hr
    go_wp2_with fail
    go_ret
    exact ⟨by rw [HF.out]; rfl, hw⟩
theorem rcheck_any (hA : Lies KN w A Ns) (hN : ∀ n, n ∈ Ns → rngN n) :
    Calls Try.prog 12 #[.agg #[.slice A Ns.length cap]] w fun e w' => e = .returned (.int .i64 (chkI (depthN Ns))) ∧ Below w.heap.size w w' := by
  obtain ⟨D, hD⟩ : ∃ D, D = depthN Ns := ⟨_, rfl⟩
  rw [← hD]
  have HD := Lib.hid hD
  have HN := Lib.hid hN
  clear hD hN
  by_cases hs : Ns.length < 1 ∨ 1024 < Ns.length
  · have HF : Hid (D = none) := HD.out.trans (depth_size hs)
    rcases hs with hs | hs
    all_goals
      go_enter Try.func12, Try.ntmps12
      go_wp2_with fail
      go_ret
      exact ⟨by rw [HF.out]; rfl, bel_alloc (bel_refl w) _⟩
  have h1 : 1 ≤ Ns.length := by omega
  have h2 : Ns.length ≤ 1024 := by omega
  have HS := Lib.hid hs
  clear hs
  go_enter Try.func12, Try.ntmps12
  go_wp2_with fail
  refine (put_any Ns A cap _ (hA.below (bel_alloc (bel_refl w) _)) HN.out h2).mono ?_
  rintro e w1 ⟨hp, hb⟩
  have hw := bel_call (bel_alloc (bel_refl w) _) hb
  clear hb
  rcases hp with ⟨st, v, hr, hg, rfl, hO⟩ | ⟨hr, rfl⟩
  · obtain ⟨AX, cx, rfl, hx⟩ := part_at0 w1 hO
    have HX := Lib.hid hx
    have HR := Lib.hid hr
    clear hx hr
    by_cases hl1 : st.length = 1
    · obtain ⟨p, hp⟩ : ∃ p, st = [p] := List.length_eq_one_iff.1 hl1
      obtain ⟨g, off, rfl, c0, c1, c2⟩ := HX.out p hp
      subst hp
      obtain ⟨pd, pb, pm⟩ := p
      dsimp only at c0 c1 c2
      have HRR := Lib.hid (depth_one HS.out HR.out)
      cases pm with
      | true =>
        have HF : Hid (D = none) := HD.out.trans HRR.out
        go_wp2_with fail
        go_ret
        exact ⟨by rw [HF.out]; rfl, hw⟩
      | false =>
        have HF : Hid (D = some pd) := HD.out.trans HRR.out
        by_cases h : 32 < pd
        · have b1 : decide ((32 : Int) < (pd : Int)) = true := by simp; omega
          have HC : Hid (chkI (some pd) = 20) := if_pos h
          go_wp2_with fail
          go_ret
          exact ⟨by rw [HF.out, HC.out]; rfl, hw⟩
        · have b1 : decide ((32 : Int) < (pd : Int)) = false := by simp; omega
          have HC : Hid (chkI (some pd) = 0) := if_neg h
          go_wp2_with fail
          go_ret
          exact ⟨by rw [HF.out, HC.out]; rfl, hw⟩
    · have HF : Hid (D = none) := HD.out.trans (depth_many HS.out HR.out hl1)
      have b1 : ((st.length : Int) != 1) = true := by rw [bne_iff_ne]; omega
      go_wp2_with fail
      go_ret
      exact ⟨by rw [HF.out]; rfl, hw⟩
  · have HF : Hid (D = none) := HD.out.trans (depth_run HS.out hr)
    clear hr
    go_wp2_with fail
    go_ret
    exact ⟨by rw [HF.out]; rfl, hw⟩
end
end Go.Proofs.Ytifmfkofadhieaa

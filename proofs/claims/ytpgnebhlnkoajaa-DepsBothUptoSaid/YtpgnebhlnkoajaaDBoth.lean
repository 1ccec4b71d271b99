/-
  Deps: the walk of DepsBoth. Conditions: the deeds lie as said; they hold no more than the bound.
-/
import Derived.Test.YtpgnebhlnkoajaaDTot
import Derived.Test.YtpgnebhlnkoajaaDBack
namespace Go.Proofs.Ytpgnebhlnkoajaa
open Go.ChangeShapes Go.WideShapes Go.ChangeAt Go.RowKit Go.Deep
attribute [local go_sem] Cls

set_option maxHeartbeats 6400000 in
set_option maxRecDepth 100000 in
theorem depsBoth_walk (A : Option Addr) (cap : Nat) (D : List DdV) (w : World) (hS : DeedsAt w A D) (htot : tot D ≤ 1048576) :
    Calls Try.prog 6 #[.slice A D.length cap] w fun e w' => e = .returned (.bool true) ∧ Below w.heap.size w w' := by
  have hDl := tot_len D
  go_enter Try.func6, Try.ntmps6
  go_wp2_with fail
  refine (ds_new _).mono ?_
  rintro e w1 ⟨db, O0, rfl, hP0, hO0, hb1⟩
  have hB0 := hb1
  clear hb1
  go_wp2_with fail
  go_loopw [4] (fun s4 wr => ∃ (k : Nat) (O : Nat → Prop) (Es : List Ed), k ≤ D.length ∧ s4 = .int .i64 k ∧ DS wr db (2 * tot (D.take k)) O Es ∧ (∀ z, O z → w.heap.size ≤ z) ∧ Below w.heap.size w wr) (fun s4 _ => D.length - (intOf s4).toNat)
  case atStart => exact ⟨0, O0, [], Nat.zero_le _, rfl, hP0, hO0, hB0⟩
  case round =>
    obtain ⟨k, O, Ls, hk, rfl, hP, hO, hW⟩ := hrel
    clear hP0 hO0 hB0
    by_cases hkl : k < D.length
    · obtain ⟨d, hd⟩ : ∃ d, D[k]? = some d := ⟨_, List.getElem?_eq_getElem hkl⟩
      obtain ⟨b1, o1, hA1, hb1, ⟨c0, c1, c2⟩, hLi, _⟩ := hS k d hd
      subst hA1
      replace c0 := (hW.cell hb1).trans c0
      replace c1 := (hW.cell hb1).trans c1
      replace c2 := (hW.cell hb1).trans c2
      have htk := tot_take hd
      have htl := tot_le D (k + 1)
      have i0 : (0 : Int) ≤ (k : Int) := by omega
      have i1 : (k : Int) < (D.length : Int) := by omega
      clear hd
      go_wp2_with fail
      go_still_tail 11, (by kernel_rfl)
      go_wp2_with fail
      refine (ds_set db _ O Ls d.row d.col d.L d.A d.cap _ (hP.below (bel_drew (bel_refl wr))) (hLi.below (bel_drew hW)) (fun x hx b off hb hz => by
        have h1 := lies_lt hLi hx hb
        have h2 := hO b hz
        omega) (by omega)).mono ?_
      rintro e w4 ⟨O4, rfl, hP4, hF4, hO4⟩
      have hW4 := hF4.bel (bel_drew hW) (fun z hz => hO z hz)
      have hO4' : ∀ z, O4 z → w.heap.size ≤ z := fun z hz => (hO4 z hz).elim (hO z) (fun h => Nat.le_trans hW.size h)
      have hP5 := hP4.mono (N' := 2 * tot (D.take (k + 1))) (by omega)
      generalize setD ⟨d.row, d.col⟩ d.L Ls = Es at hP5
      have hEl := hP5.len
      clear hP4 hF4 hO4
      go_wp2_with fail
      refine (ds_edges db _ O4 Es _ hP5 (by omega)).mono ?_
      rintro e w5 ⟨v5, rfl, hL, hb5⟩
      obtain ⟨A5, c5, rfl, _, _, hL, _⟩ := hL.see
      replace hP5 := hP5.below hb5
      replace hW4 := bel_call hW4 hb5
      clear hb5
      go_wp2_with fail
      refine (ds_back db _ O4 Es _ hP5 (by omega)).mono ?_
      rintro e w6 ⟨v6, rfl, hL2, hb6⟩
      obtain ⟨A6, c6, rfl, _, _, hL2, _⟩ := hL2.see
      replace hP5 := hP5.below hb6
      replace hL := hL.below hb6
      replace hW4 := bel_call hW4 hb6
      clear hb6
      go_wp2_with fail
      refine (dedges_same Es A5 A6 c5 c6 _ hL hL2 (by omega)).mono ?_
      rintro e w7 ⟨rfl, hb7⟩
      replace hP5 := hP5.below hb7
      replace hW4 := bel_call hW4 hb7
      clear hb7 hL hL2 htk htl
      go_wp2_with fail
      go_roundw
      case rel => exact ⟨k + 1, O4, Es, by omega, by go_num, hP5, hO4', hW4⟩
      case measure => simp [intOf]; omega
    obtain rfl : k = D.length := by omega
    have i1 : ¬ ((D.length : Int) < (D.length : Int)) := by omega
    go_wp2_with fail
    refine (dlives_any _).mono ?_
    rintro e w9 ⟨rfl, hb9⟩
    have hW9 := bel_call hW hb9
    clear hb9
    go_wp2_with fail
    go_ret
    exact ⟨rfl, hW9⟩
end Go.Proofs.Ytpgnebhlnkoajaa

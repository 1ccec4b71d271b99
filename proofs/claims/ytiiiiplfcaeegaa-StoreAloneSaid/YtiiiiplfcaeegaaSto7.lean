/-
  Contract of store.Drop. Conditions: those of each theorem.
-/
import Derived.Test.YtiiiiplfcaeegaaSto6
import Derived.Deep.DeepCutAuto
import Derived.Deep.CutBlock
import Derived.BigRegion
namespace Go.Proofs.Ytiiiiplfcaeegaa
open Go.ChangeShapes Go.WideShapes Go.ChangeAt Go.RowKit Go.Deep

theorem sdrop_no (sb : Nat) (r c : Int) (w : World) (hm : mayB r c = false) :
    Calls Try.prog 20 #[.pointer (some ⟨sb, 0, none⟩), .agg #[.int .i64 r, .int .i64 c]] w fun e w' => e = .returned (.int .i64 3) ∧ Below w.heap.size w w' := by
  go_enter Try.func20, Try.ntmps20
  go_wp2_with fail
  refine (may_any _ _ _).mono ?_
  rintro e w1 ⟨rfl, hb1⟩
  rw [hm]
  go_wp2_with fail
  go_ret
  exact ⟨rfl, bel_call (bel_alloc (bel_refl w) _) hb1⟩

theorem sdrop_nil (sb : Nat) (ch rb : Nat → Option Nat) (g : Grid) (cnt : Int) (q d : Nat) (w : World) (h : SIs w sb ch rb g cnt) (hq : q < 4096) (hd : d < 256) (hg : g q d = none) :
    Calls Try.prog 20 #[.pointer (some ⟨sb, 0, none⟩), .agg #[.int .i64 ((q : Int) + 1), .int .i64 ((d : Int) + 1)]] w fun e w' => e = .returned (.int .i64 0) ∧ Below w.heap.size w w' := by
  have hm : mayB ((q : Int) + 1) ((d : Int) + 1) = true := by simp [mayB]; omega
  go_enter Try.func20, Try.ntmps20
  go_wp2_with fail
  refine (may_any _ _ _).mono ?_
  rintro e w1 ⟨rfl, hb1⟩
  rw [hm]
  have k3 := (Blk.new w rfl _ _).below hb1
  have h1 := (h.alloc _).below hb1
  have hw := bel_call (bel_alloc (bel_refl w) _) hb1
  clear hb1
  have rd3 := k3.rd
  have lt3 := k3.lt
  go_wp2_with fail
  refine (sget_any _ _ q d _ h1 rfl rfl hq hd).mono ?_
  rintro e w2 ⟨rfl, hb2⟩
  rw [hg]
  replace hw := bel_call hw hb2
  go_wp2_with fail
  go_ret
  exact ⟨rfl, hw⟩

theorem own_upd_none {sb n b : Nat} {ch rb : Nat → Option Nat} (h : own sb ch (upd rb n none) b) : own sb ch rb b := by
  rcases h with h | h | ⟨r, hr, h⟩
  · exact .inl h
  · exact .inr (.inl h)
  · exact .inr (.inr ⟨r, hr, (upd_none h).2⟩)

set_option maxHeartbeats 1600000 in
set_option maxRecDepth 100000 in
theorem sdrop_yes (sb : Nat) (ch rb : Nat → Option Nat) (g : Grid) (cnt : Int) (i k c : Nat) (w : World) (h : SIs w sb ch rb g cnt) (hi : i < 256) (hk : k < 16) (hc : c < 256) (y : Addr) (hg : g (i * 16 + k) c = some y) :
    Calls Try.prog 20 #[.pointer (some ⟨sb, 0, none⟩), .agg #[.int .i64 ((i : Int) * 16 + k + 1), .int .i64 ((c : Int) + 1)]] w fun e w' => e = .returned (.int .i64 0) ∧
      ∃ ch' rb', SIs w' sb ch' rb' (gset g (i * 16 + k) c none) (cnt - 1) ∧ Frm (own sb ch rb) w w' ∧ ∀ b, own sb ch' rb' b → own sb ch rb b := by
  have hm : mayB ((i : Int) * 16 + k + 1) ((c : Int) + 1) = true := by simp [mayB]; omega
  obtain ⟨d, hrb⟩ : ∃ d, rb (i * 16 + k) = some d := by
    cases hh : rb (i * 16 + k) with
    | some d => exact ⟨d, rfl⟩
    | none =>
      have := h.emp _ (by omega) hh c hc
      rw [hg] at this
      cases this
  obtain ⟨b, hch⟩ : ∃ b, ch i = some b := by
    cases hh : ch i with
    | some b => exact ⟨b, rfl⟩
    | none =>
      have := h.up (i * 16 + k) (by omega) (by rw [show (i * 16 + k) / 16 = i by omega]; exact hh)
      rw [hrb] at this
      cases this
  have hwas : (g (i * 16 + k) c).isSome = true := by rw [hg]; rfl
  have hrc := rcount_set g (i * 16 + k) c none hc
  have htot := total_set g (i * 16 + k) c none (by omega) hc
  have hrl := rcount_le g (i * 16 + k)
  have htl := total_le g
  have hnum := h.num
  rw [hwas] at hrc htot
  simp at hrc htot
  obtain ⟨rc, hrcE⟩ : ∃ n : Nat, n = rcount g (i * 16 + k) := ⟨_, rfl⟩
  have HRC : Hid (rc = rcount g (i * 16 + k)) := hrcE
  have hrc1 : 1 ≤ rc ∧ rc ≤ 256 := by omega
  have hrc2 : Hid (rcount (gset g (i * 16 + k) c none) (i * 16 + k) + 1 = rc) := by show (_ = _); omega
  have hcnt1 : 1 ≤ cnt ∧ cnt ≤ 1048576 := by omega
  clear hrc htot hrl htl hnum hrcE
  obtain ⟨x, hx⟩ : ∃ x, g (i * 16 + k) c = some x := ⟨y, hg⟩
  go_enter Try.func20, Try.ntmps20
  go_wp2_with fail
  refine (may_any _ _ _).mono ?_
  rintro e w1 ⟨rfl, hb1⟩
  rw [hm]
  have k3 := (Blk.new w rfl _ _).below hb1
  have h1 := (h.alloc _).below hb1
  have hw := bel_call (bel_alloc (bel_refl w) _) hb1
  clear hb1
  have rd3 := k3.rd
  have lt3 := k3.lt
  go_wp2_with fail
  refine (sget_any _ _ (i * 16 + k) c _ h1 (by omega) rfl (by omega) hc).mono ?_
  rintro e w2 ⟨rfl, hb2⟩
  rw [hg]
  clear hx hg
  replace h1 := h1.below hb2
  replace k3 := k3.below hb2
  replace hw := bel_call hw hb2
  clear hb2
  replace rd3 := k3.rd
  replace lt3 := k3.lt
  go_wp2_with fail
  refine (place_any _ i k _ ?_ hk (by omega)).mono ?_
  · omega
  rintro e w3 ⟨rfl, rfl⟩
  have hcb := h1.chk i (by omega) b hch
  have hrd := h1.row _ (by omega) d hrb
  have e1 : w2.cell? ⟨sb, i, none⟩ = some (.pointer (some ⟨b, 0, none⟩)) := (h1.top.cell (by omega)).trans (by unfold sf; rw [if_pos (by omega), hch]; rfl)
  have e2 : w2.cell? ⟨b, k, none⟩ = some (.slice (some ⟨d, 0, none⟩) 256 256) := (hcb.cell (by omega)).trans (by unfold cf; rw [if_pos hk, hrb]; rfl)
  have e3 : w2.cell? ⟨d, c, none⟩ = some _ := hrd.cell hc
  have e4 : w2.cell? ⟨b, 16 + k, none⟩ = some (.int .i64 rc) := (hcb.cell (by omega)).trans (by unfold cf; rw [if_neg (by omega), show 16 + k - 16 = k by omega, HRC.out])
  have e5 : w2.cell? ⟨sb, 257, none⟩ = some (.int .i64 cnt) := h1.top.cell (by omega)
  have f1 := h1.top.frozen
  have f2 := hcb.frozen
  have f3 := hrd.frozen
  have l1 := h1.top.lt
  have l2 := hcb.lt
  have l3 := hrd.lt
  have n1 : ¬ sb = b := row_ne h1.top hcb (by decide)
  have n2 : ¬ sb = d := row_ne h1.top hrd (by decide)
  have n3 : ¬ b = d := row_ne hcb hrd (by decide)
  have n4 : ¬ w.heap.size = b := by have := h.own_lt (.inr (.inl ⟨i, by omega, hch⟩) : own sb ch rb b); omega
  have n5 : ¬ w.heap.size = d := by have := h.own_lt (.inr (.inr ⟨_, by omega, hrb⟩) : own sb ch rb d); omega
  have n1' : ¬ b = sb := fun e => n1 e.symm
  have n2' : ¬ d = sb := fun e => n2 e.symm
  have n3' : ¬ d = b := fun e => n3 e.symm
  go_wp2_with fail
  go_big_region
  go_wp2_with fail
  go_big_region
  go_upto_if 60 with fail
  have hOb : own sb ch rb b := .inr (.inl ⟨i, by omega, hch⟩)
  have hOd : own sb ch rb d := .inr (.inr ⟨_, by omega, hrb⟩)
  have hS : SIs ((((((w2.setCell ⟨d, c, none⟩ (.pointer none)).drew).setCell ⟨b, 16 + k, none⟩ (.int .i64 (rc - 1))).drew).setCell ⟨sb, 257, none⟩ (.int .i64 (cnt - 1)))) sb ch rb (gset g (i * 16 + k) c none) (cnt - 1) := by
    have := h1.unput i k c hi hk hc hch hrb hwas
    rw [← HRC.out] at this
    exact this.keep fun _ _ => rfl
  have hF : Frm (own sb ch rb) w ((((((w2.setCell ⟨d, c, none⟩ (.pointer none)).drew).setCell ⟨b, 16 + k, none⟩ (.int .i64 (rc - 1))).drew).setCell ⟨sb, 257, none⟩ (.int .i64 (cnt - 1)))) :=
    (((((((Frm.refl _ w).call hw).set (.inl hOd) _).drew).set (.inl hOb) _).drew).set (.inl (.inl rfl)) _)
  generalize hg' : gset g (i * 16 + k) c none = g' at hS hrc2
  have HG : Hid (gset g (i * 16 + k) c none = g') := hg'
  clear hg'
  go_cut [] (fun wx => ∃ (rb' : Nat → Option Nat), SIs wx sb ch rb' g' (cnt - 1) ∧ Frm (own sb ch rb) w wx ∧ (∀ z, own sb ch rb' z → own sb ch rb z))
  case first =>
    by_cases hz : rc = 1
    · have hz' : (((rc : Int) - 1) == 0) = true := by simp; omega
      have h0 : rcount g' (i * 16 + k) = 0 := by have := hrc2.out; omega
      have H0 : Hid (rcount g' (i * 16 + k) = 0) := h0
      clear h0 hz
      have hS' := hS.dropRow i k hi hk hch H0.out
      have hF' := hF.set (o := k) (.inl hOb) (.slice none 0 0)
      go_wp2_with fail
      go_meet
      case rel => exact ⟨upd rb (i * 16 + k) none, hS'.keep (fun _ _ => rfl), ⟨hF'.os, hF'.tape, hF'.output, hF'.size, hF'.block⟩, fun z hz => own_upd_none hz⟩
    · have hz' : (((rc : Int) - 1) == 0) = false := by simp; omega
      go_wp2_with fail
      go_meet
      case rel => exact ⟨rb, hS, hF, fun _ h => h⟩
  case rest =>
    obtain ⟨rb', hS2, hF2, hO2⟩ := hcut
    clear hS hF e1 e2 e3 e4 e5 f1 f2 f3 l1 l2 l3 hcb hrd h1
    obtain ⟨U, hU⟩ : ∃ U : Nat → Int, U = fun j => (rcount g' (i * 16 + j) : Int) := ⟨_, rfl⟩
    have hcb := hS2.chk i (by omega) b hch
    have hu : ∀ j, j < 16 → wc.cell? ⟨b, 16 + j, none⟩ = some (.int .i64 (U j)) := fun j hj => (hcb.cell (by omega)).trans (by unfold cf; rw [if_neg (by omega), show 16 + j - 16 = j by omega, hU])
    have q0 : wc.cell? ⟨b, 16, none⟩ = some (.int .i64 (U 0)) := hu 0 (by omega)
    have q1 : wc.cell? ⟨b, 17, none⟩ = some (.int .i64 (U 1)) := hu 1 (by omega)
    have q2 : wc.cell? ⟨b, 18, none⟩ = some (.int .i64 (U 2)) := hu 2 (by omega)
    have q3 : wc.cell? ⟨b, 19, none⟩ = some (.int .i64 (U 3)) := hu 3 (by omega)
    have q4 : wc.cell? ⟨b, 20, none⟩ = some (.int .i64 (U 4)) := hu 4 (by omega)
    have q5 : wc.cell? ⟨b, 21, none⟩ = some (.int .i64 (U 5)) := hu 5 (by omega)
    have q6 : wc.cell? ⟨b, 22, none⟩ = some (.int .i64 (U 6)) := hu 6 (by omega)
    have q7 : wc.cell? ⟨b, 23, none⟩ = some (.int .i64 (U 7)) := hu 7 (by omega)
    have q8 : wc.cell? ⟨b, 24, none⟩ = some (.int .i64 (U 8)) := hu 8 (by omega)
    have q9 : wc.cell? ⟨b, 25, none⟩ = some (.int .i64 (U 9)) := hu 9 (by omega)
    have q10 : wc.cell? ⟨b, 26, none⟩ = some (.int .i64 (U 10)) := hu 10 (by omega)
    have q11 : wc.cell? ⟨b, 27, none⟩ = some (.int .i64 (U 11)) := hu 11 (by omega)
    have q12 : wc.cell? ⟨b, 28, none⟩ = some (.int .i64 (U 12)) := hu 12 (by omega)
    have q13 : wc.cell? ⟨b, 29, none⟩ = some (.int .i64 (U 13)) := hu 13 (by omega)
    have q14 : wc.cell? ⟨b, 30, none⟩ = some (.int .i64 (U 14)) := hu 14 (by omega)
    have q15 : wc.cell? ⟨b, 31, none⟩ = some (.int .i64 (U 15)) := hu 15 (by omega)
    have HU : Hid (U = fun j => (rcount g' (i * 16 + j) : Int)) := hU
    clear hu hU
    obtain ⟨r, heq, hriff⟩ := eql_used U
    have HR : Hid (r = true ↔ ∀ k, k < 16 → U k = 0) := hriff
    clear hriff
    have e1 : wc.cell? ⟨sb, i, none⟩ = some (.pointer (some ⟨b, 0, none⟩)) := (hS2.top.cell (by omega)).trans (by unfold sf; rw [if_pos (by omega), hch]; rfl)
    have f1 := hS2.top.frozen
    have l1 := hS2.top.lt
    cases r with
    | true =>
      go_wp2_with fail
      go_ret
      have h0 : ∀ j, j < 16 → rcount g' (i * 16 + j) = 0 := fun j hj => by
        have h1 := HR.out.1 (by trivial) j hj
        rw [HU.out] at h1
        have h2 : ((rcount g' (i * 16 + j) : Nat) : Int) = 0 := h1
        omega
      have hS3 := hS2.dropChunk i hi h0
      have hF3 := hF2.set (o := i) (.inl (.inl rfl)) (.pointer none)
      have hO3 : ∀ z, own sb (upd ch i none) (fun r => if r / 16 = i then none else rb' r) z → own sb ch rb z := by
        rintro z (hz | ⟨j, hj, hz⟩ | ⟨r, hr, hz⟩)
        · exact .inl hz
        · exact .inr (.inl ⟨j, hj, (upd_none hz).2⟩)
        · dsimp only at hz
          split at hz
          · cases hz
          · exact hO2 z (.inr (.inr ⟨r, hr, hz⟩))
      rw [HG.out]
      exact ⟨rfl, _, _, hS3, hF3, hO3⟩
    | false =>
      go_wp2_with fail
      go_ret
      rw [HG.out]
      exact ⟨rfl, _, _, hS2, hF2, hO2⟩
end Go.Proofs.Ytiiiiplfcaeegaa

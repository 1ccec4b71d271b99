/-
  The walks of RefsTold and RefsSame: they return true. Conditions: the formulas lie as said; their lists' bytes are below make's bound.
-/
import Derived.Test.YtifmfkofadhieaaRL1
namespace Go.Proofs.Ytifmfkofadhieaa
open Go.ChangeShapes Go.WideShapes Go.ChangeAt Go.RowKit Go.Deep

theorem ol_see' {α : Type} {K : Knd α} {w : World} {B : Nat} {v : Value} {L : List α} (h : OL K w B v L) : ∃ A c, v = .slice A L.length c ∧ Lies K w A L ∧ L.length ≤ 9223372036854775807 := by
  obtain ⟨A, c, h1, h2, h3, h4, _⟩ := h.see
  exact ⟨A, c, h1, h4, by unfold maxLen at h3; omega⟩
theorem neq_ref_self (w : World) (m : Bool) (t l b r : Int) : (binOp .neq 37 (.agg #[.bool m, .int .i64 t, .int .i64 l, .int .i64 b, .int .i64 r]) (.agg #[.bool m, .int .i64 t, .int .i64 l, .int .i64 b, .int .i64 r])).run Try.prog w = .ok (.bool false) w := by
  rw [neq_ref, decide_eq_true rfl]
  rfl

set_option maxHeartbeats 3200000 in
set_option maxRecDepth 100000 in
theorem refsTold_walk (Ns : List Nd) (A : Option Addr) (cap : Nat) (w : World) (hA : Lies KN w A Ns) (hN : ∀ n, n ∈ Ns → rngN n) (hb : (Ns.length + 2) * 136 ≤ 281474976710656) :
    Calls Try.prog 5 #[.agg #[.slice A Ns.length cap]] w fun e w' => e = .returned (.bool true) ∧ Below w.heap.size w w' := by
  have HN := Lib.hid hN
  clear hN
  go_enter Try.func5, Try.ntmps5
  go_wp2_with fail
  refine (copied_any Ns A cap _ (hA.below (bel_alloc (bel_refl w) _)) hb).mono ?_
  rintro e w1 ⟨g, rfl, hO, hb1⟩
  have k1 := (Blk.new w rfl 24 #[.slice A Ns.length cap]).below hb1
  have hW := bel_call (bel_alloc (bel_refl w) _) hb1
  have HLS := cop_lies hO
  have HL2 := hA.below hW
  clear hb1 hO hA
  have rd1 := k1.rd
  have lt1 := k1.lt
  go_wp2_with fail
  have k3 := Blk.new w1 rfl 24 #[.slice (some ⟨g, 0, none⟩) Ns.length (Ns.length + 2)]
  have hb1 := bel_alloc (bel_refl w1) (.cells #[.slice (some ⟨g, 0, none⟩) Ns.length (Ns.length + 2)] 24)
  have rd3 := k3.rd
  have lt3 := k3.lt
  generalize hwz : w1.alloc (.cells #[.slice (some ⟨g, 0, none⟩) Ns.length (Ns.length + 2)] 24) = wz at k3 hb1 rd3 lt3 ⊢
  clear hwz
  replace k1 := k1.below hb1
  replace HLS := HLS.below hb1
  replace HL2 := HL2.below hb1
  replace hW := bel_call hW hb1
  clear hb1
  replace rd1 := k1.rd
  replace lt1 := k1.lt
  have HLO := HLS.take Ns.length
  rw [List.take_left] at HLO
  have hl : Ns.length ≤ 9223372036854775807 := by omega
  refine (pof_any Ns _ (Ns.length + 2) _ HLO HN.out).mono ?_
  rintro e w4 ⟨v1, rfl, hV1, hb4⟩
  obtain ⟨A1, c1, rfl, hM1, hol⟩ := ol_see' hV1
  clear hV1
  replace k1 := k1.below hb4
  replace k3 := k3.below hb4
  replace HLS := HLS.below hb4
  replace HL2 := HL2.below hb4
  replace HLO := HLO.below hb4
  replace hW := bel_call hW hb4
  clear hb4
  replace rd1 := k1.rd
  replace lt1 := k1.lt
  replace rd3 := k3.rd
  replace lt3 := k3.lt
  go_wp2_with fail
  refine (rof_any Ns _ cap _ HL2 HN.out).mono ?_
  rintro e w5 ⟨v2, rfl, hV2, hb5⟩
  obtain ⟨A2, c2, rfl, hM2, _⟩ := ol_see' hV2
  clear hV2
  replace k1 := k1.below hb5
  replace k3 := k3.below hb5
  replace HLS := HLS.below hb5
  replace HL2 := HL2.below hb5
  replace HLO := HLO.below hb5
  replace hM1 := hM1.below hb5
  replace hW := bel_call hW hb5
  clear hb5
  replace rd1 := k1.rd
  replace lt1 := k1.lt
  replace rd3 := k3.rd
  replace lt3 := k3.lt
  obtain ⟨out, hout⟩ : ∃ out, out = ofN Ns := ⟨_, rfl⟩
  rw [← hout] at hM1 hM2 hol ⊢
  clear hout
  go_wp2_with fail
  clear rd1 rd3 lt1 lt3
  go_loopw [6] (fun s wr => ∃ i : Nat, i ≤ out.length ∧ s = .int .i64 i ∧ Below w5.heap.size w5 wr) (fun s _ => out.length - (intOf s).toNat)
  case atStart => exact ⟨0, Nat.zero_le _, rfl, bel_refl w5⟩
  case round =>
  obtain ⟨i, hi, rfl, hI⟩ := hrel
  by_cases hil : i < out.length
  · obtain ⟨y, hy⟩ : ∃ y, out[i]? = some y := ⟨_, List.getElem?_eq_getElem hil⟩
    obtain ⟨ga, oa, rfl, hga, c0, c1, c2, c3, c4⟩ := ref_at (hM1.below hI) hy
    obtain ⟨gb, ob, rfl, hgb, d0, d1, d2, d3, d4⟩ := ref_at (hM2.below hI) hy
    clear hy
    obtain ⟨ym, yt, yl, yb, yr⟩ := y
    dsimp only at c0 c1 c2 c3 c4 d0 d1 d2 d3 d4
    have heq := fun w => neq_ref_self w ym yt yl yb yr
    have i0 : (0 : Int) ≤ (i : Int) := by omega
    have i1 : (i : Int) < (out.length : Int) := by omega
    go_wp2_with fail
    go_quiet (fail)
    go_wp2_with fail
    go_roundw
    case rel => exact ⟨i + 1, by omega, by go_num, bel_drewN hI nq⟩
    case measure => simp [intOf]; omega
  obtain rfl : i = out.length := by omega
  clear hi hil
  replace k1 := k1.below hI
  replace k3 := k3.below hI
  replace HLS := HLS.below hI
  replace HL2 := HL2.below hI
  replace HLO := HLO.below hI
  replace hW := bel_call hW hI
  clear hI
  have rd1 := k1.rd
  have lt1 := k1.lt
  have rd3 := k3.rd
  have lt3 := k3.lt
  go_wp2_with fail
  refine (rsame_any Ns Ns _ _ _ _ _ HLO HL2 hl).mono ?_
  rintro e w6 ⟨rfl, hb6⟩
  rw [same_self]
  replace k1 := k1.below hb6
  replace k3 := k3.below hb6
  replace HLS := HLS.below hb6
  replace HL2 := HL2.below hb6
  replace HLO := HLO.below hb6
  replace hW := bel_call hW hb6
  clear hb6
  replace rd1 := k1.rd
  replace lt1 := k1.lt
  replace rd3 := k3.rd
  replace lt3 := k3.lt
  go_wp2_with fail
  refine (spared_any Ns g _ HLS hb).mono ?_
  rintro e w7 ⟨rfl, hb7⟩
  replace k1 := k1.below hb7
  replace k3 := k3.below hb7
  replace HLS := HLS.below hb7
  replace HL2 := HL2.below hb7
  replace HLO := HLO.below hb7
  replace hW := bel_call hW hb7
  clear hb7
  replace rd1 := k1.rd
  replace lt1 := k1.lt
  replace rd3 := k3.rd
  replace lt3 := k3.lt
  go_wp2_with fail
  refine (lives_any _).mono ?_
  rintro e w8 ⟨rfl, hb8⟩
  replace hW := bel_call hW hb8
  clear hb8
  go_wp2_with fail
  go_ret
  exact ⟨rfl, hW⟩

set_option maxHeartbeats 3200000 in
set_option maxRecDepth 100000 in
theorem refsSame_walk (Ns Ms : List Nd) (A B : Option Addr) (ca cb : Nat) (w : World) (hA : Lies KN w A Ns) (hB : Lies KN w B Ms) (hb : (Ns.length + 2) * 136 ≤ 281474976710656) (hlm : Ms.length ≤ 9223372036854775807) :
    Calls Try.prog 7 #[.agg #[.slice A Ns.length ca], .agg #[.slice B Ms.length cb]] w fun e w' => e = .returned (.bool true) ∧ Below w.heap.size w w' := by
  have hl : Ns.length ≤ 9223372036854775807 := by omega
  obtain ⟨q, hq⟩ : ∃ q, q = sameB Ns Ms := ⟨_, rfl⟩
  have hS1 := fun W h1 h2 => rsame_any Ns Ms A B ca cb W h1 h2 hl
  have hS2 := fun W h1 h2 => psame_any Ns Ms A B ca cb W h1 h2 hl
  have hS3 := fun W h1 h2 => psame_any Ms Ns B A cb ca W h1 h2 hlm
  rw [← hq] at hS1 hS2
  rw [same_comm, ← hq] at hS3
  have HS1 := Lib.hid hS1
  have HS2 := Lib.hid hS2
  have HS3 := Lib.hid hS3
  clear hS1 hS2 hS3 hq
  go_enter Try.func7, Try.ntmps7
  go_wp2_with fail
  have k2 := (Blk.new w rfl 24 #[.slice A Ns.length ca]).alloc (.cells #[.slice B Ms.length cb] 24)
  have k3 := Blk.new (w.alloc (.cells #[.slice A Ns.length ca] 24)) (g := w.heap.size + 1) (by simp) 24 #[.slice B Ms.length cb]
  have hW := bel_alloc (bel_alloc (bel_refl w) (.cells #[.slice A Ns.length ca] 24)) (.cells #[.slice B Ms.length cb] 24)
  have HA := hA.below hW
  have HB := hB.below hW
  refine (HS1.out _ HA HB).mono ?_
  rintro e w1 ⟨rfl, hb1⟩
  clear hA hB
  replace k2 := k2.below hb1
  replace k3 := k3.below hb1
  replace HA := HA.below hb1
  replace HB := HB.below hb1
  replace hW := bel_call hW hb1
  clear hb1
  have rd2 := k2.rd
  have lt2 := k2.lt
  have rd3 := k3.rd
  have lt3 := k3.lt
  go_wp2_with fail
  refine (copied_any Ns A ca _ HA hb).mono ?_
  rintro e w2 ⟨g, rfl, hO, hb2⟩
  have HLS := cop_lies hO
  clear hO
  replace k2 := k2.below hb2
  replace k3 := k3.below hb2
  replace HA := HA.below hb2
  replace HB := HB.below hb2
  replace hW := bel_call hW hb2
  clear hb2
  replace rd2 := k2.rd
  replace lt2 := k2.lt
  replace rd3 := k3.rd
  replace lt3 := k3.lt
  go_wp2_with fail
  have k6 := Blk.new w2 rfl 24 #[.slice (some ⟨g, 0, none⟩) Ns.length (Ns.length + 2)]
  have hb3 := bel_alloc (bel_refl w2) (.cells #[.slice (some ⟨g, 0, none⟩) Ns.length (Ns.length + 2)] 24)
  have rd6 := k6.rd
  have lt6 := k6.lt
  generalize hwz : w2.alloc (.cells #[.slice (some ⟨g, 0, none⟩) Ns.length (Ns.length + 2)] 24) = wz at k6 hb3 rd6 lt6 ⊢
  clear hwz
  replace k2 := k2.below hb3
  replace k3 := k3.below hb3
  replace HA := HA.below hb3
  replace HB := HB.below hb3
  replace HLS := HLS.below hb3
  replace hW := bel_call hW hb3
  clear hb3
  replace rd2 := k2.rd
  replace lt2 := k2.lt
  replace rd3 := k3.rd
  replace lt3 := k3.lt
  have HLO := HLS.take Ns.length
  rw [List.take_left] at HLO
  refine (HS2.out _ HA HB).mono ?_
  rintro e w4 ⟨rfl, hb4⟩
  replace k2 := k2.below hb4
  replace k3 := k3.below hb4
  replace k6 := k6.below hb4
  replace HA := HA.below hb4
  replace HB := HB.below hb4
  replace HLO := HLO.below hb4
  replace hW := bel_call hW hb4
  clear hb4
  replace rd2 := k2.rd
  replace lt2 := k2.lt
  replace rd3 := k3.rd
  replace lt3 := k3.lt
  replace rd6 := k6.rd
  replace lt6 := k6.lt
  go_wp2_with fail
  refine (HS3.out _ HB HA).mono ?_
  rintro e w5 ⟨rfl, hb5⟩
  replace k2 := k2.below hb5
  replace k3 := k3.below hb5
  replace k6 := k6.below hb5
  replace HA := HA.below hb5
  replace HB := HB.below hb5
  replace HLO := HLO.below hb5
  replace hW := bel_call hW hb5
  clear hb5
  replace rd2 := k2.rd
  replace lt2 := k2.lt
  replace rd3 := k3.rd
  replace lt3 := k3.lt
  replace rd6 := k6.rd
  replace lt6 := k6.lt
  go_wp2_with fail
  refine (psame_any Ns Ns _ _ _ _ _ HLO HA hl).mono ?_
  rintro e w6 ⟨rfl, hb6⟩
  rw [same_self]
  replace k2 := k2.below hb6
  replace k3 := k3.below hb6
  replace k6 := k6.below hb6
  replace HA := HA.below hb6
  replace HB := HB.below hb6
  replace HLO := HLO.below hb6
  replace hW := bel_call hW hb6
  clear hb6
  replace rd2 := k2.rd
  replace lt2 := k2.lt
  replace rd3 := k3.rd
  replace lt3 := k3.lt
  replace rd6 := k6.rd
  replace lt6 := k6.lt
  go_wp2_with fail
  refine (lives_any _).mono ?_
  rintro e w8 ⟨rfl, hb8⟩
  replace hW := bel_call hW hb8
  clear hb8
  go_wp2_with fail
  go_ret
  exact ⟨rfl, hW⟩
end Go.Proofs.Ytifmfkofadhieaa

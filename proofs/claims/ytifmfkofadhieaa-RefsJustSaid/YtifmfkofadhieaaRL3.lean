/-
  The walk of RefsOwns: it returns true. Conditions: the formula lies as said.
-/
import Derived.Test.YtifmfkofadhieaaRL2
namespace Go.Proofs.Ytifmfkofadhieaa
open Go.ChangeShapes Go.WideShapes Go.ChangeAt Go.RowKit Go.Deep

theorem ol_blk {α : Type} {K : Knd α} {w : World} {B n c g : Nat} {L : List α} (h : OL K w B (.slice (some ⟨g, 0, none⟩) n c) L) : ∃ cur : Array Value, Blk w g K.t cur ∧ cur.size = c * K.size ∧ B ≤ g ∧ c ≤ maxLen := by
  rcases h.2 with ⟨h2, _⟩ | ⟨g', cap, cur, hv, hB, hg, hn, hm, hs, ht⟩
  · cases h2
  · injection hv with e1 e2 e3
    injection e1 with e1
    injection e1 with e1
    subst e1 e3
    exact ⟨cur, hg, by simpa using hs, hB, hm⟩
/-- A list that Of has made, its room with it: none, or a block of its own. -/
theorem own_room {w : World} {B : Nat} {v : Value} {L : List Rf} (h : OL KF w B v L) : (L.length = 0 ∧ v = .slice none 0 0) ∨ ∃ (g c : Nat) (cur : Array Value), v = .slice (some ⟨g, 0, none⟩) L.length c ∧ Blk w g 37 cur ∧ cur.size = c * 5 ∧ B ≤ g ∧ L.length ≤ c ∧ c ≤ 9223372036854775807 := by
  obtain ⟨A, c, rfl, h1, h2, h3, h4⟩ := h.see
  rcases h4 with rfl | ⟨g, rfl, hg1, hg2⟩
  · obtain ⟨e1, e2⟩ := ol_none h
    exact .inl ⟨e1, by rw [e1, e2]⟩
  · obtain ⟨cur, b1, b2, b3, b4⟩ := ol_blk h
    exact .inr ⟨g, c, cur, rfl, b1, b2, b3, h1, by unfold maxLen at b4; omega⟩

set_option maxHeartbeats 3200000 in
set_option maxRecDepth 100000 in
theorem refsOwns_walk (Ns : List Nd) (A : Option Addr) (cap : Nat) (w : World) (hA : Lies KN w A Ns) (hN : ∀ n, n ∈ Ns → rngN n) :
    Calls Try.prog 8 #[.agg #[.slice A Ns.length cap]] w fun e w' => e = .returned (.bool true) ∧ Below w.heap.size w w' := by
  have HN := Lib.hid hN
  clear hN
  go_enter Try.func8, Try.ntmps8
  go_wp2_with fail
  refine (pof_any Ns A cap _ (hA.below (bel_alloc (bel_refl w) _)) HN.out).mono ?_
  rintro e w1 ⟨v1, rfl, hV1, hb1⟩
  have hroom := own_room hV1
  have k1' := (Blk.new w rfl 24 #[.slice A Ns.length cap]).below hb1
  have hW' := bel_call (bel_alloc (bel_refl w) _) hb1
  clear hb1 hV1
  rcases hroom with ⟨hl0, rfl⟩ | ⟨g1, c1, cur1, rfl, kc', hcs, hg1, hlc, hc1⟩
  case' inl =>
    clear hl0
    have rd1 := k1'.rd
    have lt1 := k1'.lt
    go_wp2_with fail
    go_loopw [5] (fun s wr => s = .int .i64 0 ∧ wr = w1) (fun s _ => 0)
    case atStart => exact ⟨rfl, rfl⟩
    case' round =>
    obtain ⟨rfl, hwr⟩ := hrel
    obtain rfl := hwr.symm
    clear rd1 lt1
    have k1 := k1'
    have hW := hW'
    clear k1' hW'
  case' inr =>
    have hgw : w.heap.size < g1 := by simp at hg1; omega
    clear hg1 hlc
    have rd1 := k1'.rd
    have lt1 := k1'.lt
    have hcc : (0 : Int) ≤ (c1 : Int) := by omega
    go_wp2_with fail
    go_loopw [5] (fun s wr => ∃ (i : Nat) (cur : Array Value), i ≤ c1 ∧ s = .int .i64 i ∧ Blk wr g1 37 cur ∧ cur.size = c1 * 5 ∧ Blk wr w.heap.size 24 #[.slice A Ns.length cap] ∧ Below w.heap.size w wr) (fun s _ => c1 - (intOf s).toNat)
    case atStart => exact ⟨0, cur1, Nat.zero_le _, rfl, kc', hcs, k1', hW'⟩
    case' round =>
    obtain ⟨i, cur, hi, rfl, kc, hcz, k1, hW⟩ := hrel
    clear rd1 lt1 k1' hW' kc' hcs
    by_cases hil : i < c1
    · have ltc := kc.lt
      have fzc := kc.fz
      have z0 : ∃ u, wr.cell? ⟨g1, i * 5, none⟩ = some u := ⟨_, (kc.rd _).trans (Array.getElem?_eq_getElem (by omega))⟩
      have z1 : ∃ u, wr.cell? ⟨g1, i * 5 + 1, none⟩ = some u := ⟨_, (kc.rd _).trans (Array.getElem?_eq_getElem (by omega))⟩
      have z2 : ∃ u, wr.cell? ⟨g1, i * 5 + 2, none⟩ = some u := ⟨_, (kc.rd _).trans (Array.getElem?_eq_getElem (by omega))⟩
      have z3 : ∃ u, wr.cell? ⟨g1, i * 5 + 3, none⟩ = some u := ⟨_, (kc.rd _).trans (Array.getElem?_eq_getElem (by omega))⟩
      have z4 : ∃ u, wr.cell? ⟨g1, i * 5 + 4, none⟩ = some u := ⟨_, (kc.rd _).trans (Array.getElem?_eq_getElem (by omega))⟩
      obtain ⟨u0, z0⟩ := z0
      obtain ⟨u1, z1⟩ := z1
      obtain ⟨u2, z2⟩ := z2
      obtain ⟨u3, z3⟩ := z3
      obtain ⟨u4, z4⟩ := z4
      have i0 : (0 : Int) ≤ (i : Int) := by omega
      have i1 : (i : Int) < (c1 : Int) := by omega
      go_wp2_with fail
      go_roundw
      case rel => exact ⟨i + 1, _, by omega, by go_num, (((((kc.put (i * 5) (.bool true)).put (i * 5 + 1) (.int .i64 0)).put (i * 5 + 2) (.int .i64 0)).put (i * 5 + 3) (.int .i64 0)).put (i * 5 + 4) (.int .i64 0)), by simpa using hcz, ((((k1.far (by omega) _).far (by omega) _).far (by omega) _).far (by omega) _).far (by omega) _, bel_set (bel_set (bel_set (bel_set (bel_set hW (by omega) _) (by omega) _) (by omega) _) (by omega) _) (by omega) _⟩
      case measure => simp [intOf]; omega
    obtain rfl : i = c1 := by omega
    clear hi hil kc hcz
  all_goals
    have HA := hA.below hW
    have rd1 := k1.rd
    have lt1 := k1.lt
    go_wp2_with fail
    refine (pof_any Ns _ cap _ HA HN.out).mono ?_
    rintro e w4 ⟨v1, rfl, hV1, hb4⟩
    obtain ⟨A1, c1, rfl, hM1, hol⟩ := ol_see' hV1
    clear hV1
    replace k1 := k1.below hb4
    replace HA := HA.below hb4
    replace hW := bel_call hW hb4
    clear hb4
    replace rd1 := k1.rd
    replace lt1 := k1.lt
    go_wp2_with fail
    refine (rof_any Ns _ cap _ HA HN.out).mono ?_
    rintro e w5 ⟨v2, rfl, hV2, hb5⟩
    obtain ⟨A2, c2, rfl, hM2, _⟩ := ol_see' hV2
    clear hV2
    replace k1 := k1.below hb5
    replace hM1 := hM1.below hb5
    replace hW := bel_call hW hb5
    clear hb5
    replace rd1 := k1.rd
    replace lt1 := k1.lt
    obtain ⟨out, hout⟩ : ∃ out, out = ofN Ns := ⟨_, rfl⟩
    rw [← hout] at hM1 hM2 hol ⊢
    clear hout
    go_wp2_with fail
    clear rd1 lt1
    go_loopw [8] (fun s wr => ∃ i : Nat, i ≤ out.length ∧ s = .int .i64 i ∧ Below w5.heap.size w5 wr) (fun s _ => out.length - (intOf s).toNat)
    case atStart => exact ⟨0, Nat.zero_le _, rfl, bel_refl w5⟩
    case round =>
    obtain ⟨i, hi, rfl, hI⟩ := hrel
    by_cases hil : i < out.length
    · obtain ⟨y, hy⟩ : ∃ y, out[i]? = some y := ⟨_, List.getElem?_eq_getElem hil⟩
      obtain ⟨ga, oa, rfl, hga, c0, c1, c2, c3, c4⟩ := ref_at (hM1.below hI) hy
      obtain ⟨gb, ob, rfl, hgb, d0, d1, d2, d3, d4⟩ := ref_at (hM2.below hI) hy
      clear hy
      obtain ⟨ym, yt, yl, yb, yr⟩ := y
      dsimp only at c0 c1 c2 c3 c4 d0 d1 d2 d3 d4
      have heq := fun w => neq_ref_self w ym yt yl yb yr
      have i0 : (0 : Int) ≤ (i : Int) := by omega
      have i1 : (i : Int) < (out.length : Int) := by omega
      go_wp2_with fail
      go_quiet (fail)
      go_wp2_with fail
      go_roundw
      case rel => exact ⟨i + 1, by omega, by go_num, bel_drewN hI nq⟩
      case measure => simp [intOf]; omega
    obtain rfl : i = out.length := by omega
    clear hi hil
    replace hW := bel_call hW hI
    clear hI
    go_wp2_with fail
    refine (lives_any _).mono ?_
    rintro e w8 ⟨rfl, hb8⟩
    replace hW := bel_call hW hb8
    clear hb8
    go_wp2_with fail
    go_ret
    exact ⟨rfl, hW⟩
end Go.Proofs.Ytifmfkofadhieaa

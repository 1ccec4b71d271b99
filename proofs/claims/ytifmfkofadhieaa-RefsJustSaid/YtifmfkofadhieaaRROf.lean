/-
  Formulas: contract of orielref05.Of. Conditions: the numbers are 64-bit integers.
-/
import Derived.Test.YtifmfkofadhieaaROf
import Derived.BigQuiet
import Derived.Deep.QuietTactic
namespace Go.Proofs.Ytifmfkofadhieaa
open Go.ChangeShapes Go.WideShapes Go.ChangeAt Go.RowKit Go.Deep

theorem ref_at {w : World} {A : Option Addr} {L : List Rf} (h : Lies KF w A L) {i : Nat} {x : Rf} (hx : L[i]? = some x) : ∃ g off, A = some ⟨g, off, none⟩ ∧ g < w.heap.size ∧ w.cell? ⟨g, off + i * 5, none⟩ = some (.bool x.m) ∧ w.cell? ⟨g, off + i * 5 + 1, none⟩ = some (.int .i64 x.t) ∧ w.cell? ⟨g, off + i * 5 + 2, none⟩ = some (.int .i64 x.l) ∧ w.cell? ⟨g, off + i * 5 + 3, none⟩ = some (.int .i64 x.b) ∧ w.cell? ⟨g, off + i * 5 + 4, none⟩ = some (.int .i64 x.r) := by
  obtain ⟨g, off, h1, h2, h3⟩ := h i x hx
  exact ⟨g, off, h1, h2, h3 0 _ rfl, h3 1 _ rfl, h3 2 _ rfl, h3 3 _ rfl, h3 4 _ rfl⟩
theorem refO_see (o : Option Rf) : ∃ (rm : Bool) (rt rl rb rr : Int) (is0 : Bool), refO o = .tuple #[.agg #[.bool rm, .int .i64 rt, .int .i64 rl, .int .i64 rb, .int .i64 rr], .bool is0] ∧ (is0 = true → o = some ⟨rm, rt, rl, rb, rr⟩) ∧ (is0 = false → o = none) := by
  cases o with
  | none => exact ⟨false, 0, 0, 0, 0, false, rfl, fun h => absurd h (by decide), fun _ => rfl⟩
  | some x => exact ⟨x.m, x.t, x.l, x.b, x.r, true, rfl, fun _ => rfl, fun h => absurd h (by decide)⟩
theorem mem_take {L : List Rf} {k : Nat} {x r : Rf} (h : L[k]? = some x) : r ∈ L.take (k + 1) ↔ r ∈ L.take k ∨ x = r := by
  rw [List.take_add_one, h, Option.toList_some, List.mem_append, List.mem_singleton]
  exact ⟨fun h => h.imp id Eq.symm, fun h => h.imp id Eq.symm⟩

set_option maxHeartbeats 6400000 in
set_option maxRecDepth 100000 in
theorem rof_any (Ns : List Nd) (A : Option Addr) (cap : Nat) (w : World) (hA : Lies KN w A Ns) (hN : ∀ n, n ∈ Ns → rngN n) :
    Calls Try.prog 19 #[.agg #[.slice A Ns.length cap]] w (OfIs Ns w) := by
  have hck := fun W hW => rcheck_any Ns A cap W hW hN
  obtain ⟨ck, hc⟩ : ∃ ck, ck = chkI (depthN Ns) := ⟨_, rfl⟩
  rw [← hc] at hck
  rcases (show ck = 0 ∨ ck = 20 from hc ▸ chk_01 _) with rfl | rfl
  case inr =>
    have HO : Hid (ofN Ns = []) := if_neg (by rw [← hc]; decide)
    clear hc hN
    go_enter Try.func19, Try.ntmps19
    go_wp2_with fail
    refine (hck _ (hA.below (bel_alloc (bel_refl w) _))).mono ?_
    rintro e w1 ⟨rfl, hb⟩
    have hw := bel_call (bel_alloc (bel_refl w) _) hb
    clear hb
    go_wp2_with fail
    go_ret
    exact ⟨_, rfl, by rw [HO.out]; exact OL.nil _ _, hw⟩
  obtain ⟨d, hd, hd32⟩ := chk_ok hc.symm
  obtain ⟨p, hr, _, _, hl1, hl2⟩ := run_of_depth hd
  have HO : Hid (ofN Ns = ofL Ns) := if_pos hc.symm
  clear hc hN hd hr
  go_enter Try.func19, Try.ntmps19
  go_wp2_with fail
  refine (hck _ (hA.below (bel_alloc (bel_refl w) _))).mono ?_
  rintro e w1 ⟨rfl, hb⟩
  have k1' := (Blk.new w rfl 24 #[.slice A Ns.length cap]).below hb
  have hw' := bel_call (bel_alloc (bel_refl w) _) hb
  clear hb hck
  have rd1 := k1'.rd
  have lt1 := k1'.lt
  go_wp2_with fail
  go_loopw [4, 5] (fun s4 s5 wr => ∃ (i : Nat), i ≤ Ns.length ∧ s5 = .int .i64 i ∧ OL KF wr (w.heap.size + 1) s4 (ofL (Ns.take i)) ∧ Blk wr w.heap.size 24 #[.slice A Ns.length cap] ∧ Below w.heap.size w wr) (fun _ s5 _ => Ns.length - (intOf s5).toNat)
  case atStart => exact ⟨0, Nat.zero_le _, rfl, OL.nil _ _, k1', hw'⟩
  case round =>
    obtain ⟨i, hi, rfl, hO, k1, hW⟩ := hrel
    clear k1' hw' rd1 lt1
    have rd1 := k1.rd
    have lt1 := k1.lt
    have hlo := ofL_len Ns i
    by_cases hil : i < Ns.length
    · obtain ⟨x, hx⟩ : ∃ x, Ns[i]? = some x := ⟨_, List.getElem?_eq_getElem hil⟩
      obtain ⟨g, off, rfl, hg, _⟩ := (hA.below hW) i x hx
      have HOF := Lib.hid (ofL_take hx)
      have HX := Lib.hid hx
      clear hx
      obtain ⟨out, hout⟩ : ∃ out, out = ofL (Ns.take i) := ⟨_, rfl⟩
      rw [← hout] at hO HOF hlo
      clear hout
      have i0 : (0 : Int) ≤ (i : Int) := by omega
      have i1 : (i : Int) < (Ns.length : Int) := by omega
      obtain ⟨k, tag, num, str, is, code, row, col, t, l, b, r, op, name, args⟩ := x
      obtain ⟨e0, e1, e2, e3, e4, e5, e6, e7, e8, e9, e10, e11, e12, e13, e14⟩ := node_at' (hA.below hW) HX.out
      dsimp only at e0 e1 e2 e3 e4 e5 e6 e7 e8 e9 e10 e11 e12 e13 e14
      go_wp2_with fail
      refine (rref_any k tag num str is code row col t l b r op name args _).mono ?_
      rintro e w2 ⟨rfl, hb2⟩
      replace hO := hO.below hb2
      replace k1 := k1.below hb2
      replace hW := bel_call hW hb2
      clear hb2 e0 e1 e2 e3 e4 e5 e6 e7 e8 e9 e10 e11 e12 e13 e14
      replace rd1 := k1.rd
      replace lt1 := k1.lt
      obtain ⟨rm, rt, rl, rb, rr, is0, hro, hyes, hno⟩ := refO_see (refN ⟨k, tag, num, str, is, code, row, col, t, l, b, r, op, name, args⟩)
      rw [hro]
      have HYES := Lib.hid hyes
      have HNO := Lib.hid hno
      clear hro hyes hno
      obtain ⟨Ao, co, rfl, hc1, hc2, hLo, hAo⟩ := hO.see
      go_wp2_with fail
      have k6 := Blk.new w2 rfl 37 #[.bool rm, .int .i64 rt, .int .i64 rl, .int .i64 rb, .int .i64 rr]
      have rd6 := k6.rd
      have hwb := bel_alloc (bel_refl w2) (.cells #[.bool rm, .int .i64 rt, .int .i64 rl, .int .i64 rb, .int .i64 rr] 37)
      have HL1 := hLo.below hwb
      have hO1 := hO.below hwb
      have k11 := k1.below hwb
      have hW1 := bel_call hW hwb
      generalize hwz : w2.alloc (.cells #[.bool rm, .int .i64 rt, .int .i64 rl, .int .i64 rb, .int .i64 rr] 37) = wz at k6 rd6 hwb HL1 hO1 k11 hW1 ⊢
      clear hwz
      go_loopw [7, 8] (fun s7 s8 wy => ∃ (j : Nat) (bs : Bool), j ≤ out.length ∧ s8 = .int .i64 j ∧ s7 = .bool bs ∧ Hid (bs = (is0 && !decide ((⟨rm, rt, rl, rb, rr⟩ : Rf) ∈ out.take j))) ∧ Below wz.heap.size wz wy) (fun _ s8 _ => out.length - (intOf s8).toNat)
      case atStart => exact ⟨0, is0, Nat.zero_le _, rfl, rfl, (show is0 = _ by simp), bel_refl wz⟩
      case round =>
        obtain ⟨j, bs, hj, rfl, rfl, HB, hI⟩ := hrel
        have k6' := k6.below hI
        have rd6' := k6'.rd
        have lt6' := k6'.lt
        clear rd6
        by_cases hjl : j < out.length
        · obtain ⟨y, hy⟩ : ∃ y, out[j]? = some y := ⟨_, List.getElem?_eq_getElem hjl⟩
          obtain ⟨gy, oy, rfl, hgy, c0, c1, c2, c3, c4⟩ := ref_at (HL1.below hI) hy
          have hms : ∀ r, r ∈ out.take (j + 1) ↔ r ∈ out.take j ∨ y = r := fun r => mem_take hy
          have HMS := Lib.hid hms
          clear hms hy
          obtain ⟨ym, yt, yl, yb, yr⟩ := y
          dsimp only at c0 c1 c2 c3 c4
          have heq := fun w => eql_ref w ym yt yl yb yr rm rt rl rb rr
          have j0 : (0 : Int) ≤ (j : Int) := by omega
          have j1 : (j : Int) < (out.length : Int) := by omega
          cases hde : decide ((⟨ym, yt, yl, yb, yr⟩ : Rf) = ⟨rm, rt, rl, rb, rr⟩) with
          | true =>
            rw [hde] at heq
            have HDE := Lib.hid (of_decide_eq_true hde)
            clear hde
            go_wp2_with fail
            go_quiet (fail)
            go_wp2_with fail
            go_roundw
            case rel => exact ⟨j + 1, false, by omega, by go_num, rfl, (show false = _ by rw [show decide ((⟨rm, rt, rl, rb, rr⟩ : Rf) ∈ out.take (j + 1)) = true from decide_eq_true ((HMS.out _).2 (.inr HDE.out))]; simp), bel_drewN hI nq⟩
            case measure => simp [intOf]; omega
          | false =>
            rw [hde] at heq
            have HDE := Lib.hid (of_decide_eq_false hde)
            clear hde
            go_wp2_with fail
            go_quiet (fail)
            go_wp2_with fail
            go_roundw
            case rel => exact ⟨j + 1, bs, by omega, by go_num, rfl, (show bs = _ by rw [HB.out, show decide ((⟨rm, rt, rl, rb, rr⟩ : Rf) ∈ out.take (j + 1)) = decide ((⟨rm, rt, rl, rb, rr⟩ : Rf) ∈ out.take j) from decide_eq_decide.2 ⟨fun h => ((HMS.out _).1 h).resolve_right HDE.out, fun h => (HMS.out _).2 (.inl h)⟩]), bel_drewN hI nq⟩
            case measure => simp [intOf]; omega
        · obtain rfl : j = out.length := by omega
          rw [List.take_length] at HB
          have hW2 := bel_call hW1 hI
          have hO2 := hO1.below hI
          have k12 := k11.below hI
          have hbz := hW2.size
          cases bs with
          | true =>
            have h1 : is0 = true ∧ (⟨rm, rt, rl, rb, rr⟩ : Rf) ∉ out := by
              have := HB.out.symm
              simpa using this
            have HST : Hid (ofL (Ns.take (i + 1)) = out ++ [⟨rm, rt, rl, rb, rr⟩]) := HOF.out.trans (addR_new (HYES.out h1.1) h1.2)
            clear h1
            go_wp2_with (at_builtin; go_must (refine wp_ol_append info_kf rfl Try.underlying32 rfl _ _ rfl rfl (OL.alloc hO2 (.cells #[.bool rm, .int .i64 rt, .int .i64 rl, .int .i64 rb, .int .i64 rr] 37)) (M := [⟨rm, rt, rl, rb, rr⟩]) (c := 1) rfl rfl (Lies.blk (Blk.new wr rfl 37 #[.bool rm, .int .i64 rt, .int .i64 rl, .int .i64 rb, .int .i64 rr]) rfl) (by unfold maxLen; omega) (by show (_ + 1) * 40 ≤ _; omega) (size1 k12.lt _) ?_); intro v9 w9 hO9 hg9)
            have hB9 := bel_grown (bel_alloc hW2 (.cells #[.bool rm, .int .i64 rt, .int .i64 rl, .int .i64 rb, .int .i64 rr] 37)) hg9 (fun z hz => by have := (hO2.lt z hz).1; omega)
            have k19 := (k12.alloc (.cells #[.bool rm, .int .i64 rt, .int .i64 rl, .int .i64 rb, .int .i64 rr] 37)).grownX hg9 (fun e => by have := (hO2.lt _ e.symm).1; omega)
            go_roundw
            case rel => exact ⟨i + 1, by omega, by go_num, by rw [HST.out]; exact hO9, k19, hB9⟩
            case measure => simp [intOf]; omega
          | false =>
            have HST : Hid (ofL (Ns.take (i + 1)) = out) := HOF.out.trans (by
              cases his : is0 with
              | false => exact addR_none (HNO.out his)
              | true =>
                have hb := HB.out
                rw [his] at hb
                exact addR_hit (HYES.out his) (by simpa using hb))
            go_wp2_with fail
            go_roundw
            case rel => exact ⟨i + 1, by omega, by go_num, by rw [HST.out]; exact hO2, k12, hW2⟩
            case measure => simp [intOf]; omega
    · obtain rfl : i = Ns.length := by omega
      rw [List.take_length] at hO
      go_wp2_with fail
      go_ret
      exact ⟨_, rfl, by rw [HO.out]; exact hO.low (Nat.le_succ _), hW⟩
end Go.Proofs.Ytifmfkofadhieaa

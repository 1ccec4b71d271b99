/-
  Formulas: contract of refs.depth. Conditions: the numbers are 64-bit integers.
-/
import Derived.Test.YtifmfkofadhieaaROpen
import Derived.Test.YtifmfkofadhieaaRPure
import Derived.Test.YtifmfkofadhieaaOlTake
import Derived.Test.YtifmfkofadhieaaFork
import Derived.Deep.DeepCutAuto
import Derived.Deep.CutBlock
namespace Go.Proofs.Ytifmfkofadhieaa
open Go.ChangeShapes Go.WideShapes Go.ChangeAt Go.RowKit Go.Deep

section
variable {w w' : World} {A : Option Addr} {Ns : List Nd}
theorem node_at (h : Lies KN w A Ns) {i : Nat} {x : Nd} (hx : Ns[i]? = some x) : ∃ g off, A = some ⟨g, off, none⟩ ∧ g < w.heap.size ∧ w.cell? ⟨g, off + i * 15, none⟩ = some (.int .i64 x.k) ∧ w.cell? ⟨g, off + i * 15 + 1, none⟩ = some (.int .i64 x.tag) ∧ w.cell? ⟨g, off + i * 15 + 2, none⟩ = some (.int .i64 x.num) ∧ w.cell? ⟨g, off + i * 15 + 3, none⟩ = some (.string x.str) ∧ w.cell? ⟨g, off + i * 15 + 4, none⟩ = some (.bool x.is) ∧ w.cell? ⟨g, off + i * 15 + 5, none⟩ = some (.int .i64 x.code) ∧ w.cell? ⟨g, off + i * 15 + 6, none⟩ = some (.int .i64 x.row) ∧ w.cell? ⟨g, off + i * 15 + 7, none⟩ = some (.int .i64 x.col) ∧ w.cell? ⟨g, off + i * 15 + 8, none⟩ = some (.int .i64 x.t) ∧ w.cell? ⟨g, off + i * 15 + 9, none⟩ = some (.int .i64 x.l) ∧ w.cell? ⟨g, off + i * 15 + 10, none⟩ = some (.int .i64 x.b) ∧ w.cell? ⟨g, off + i * 15 + 11, none⟩ = some (.int .i64 x.r) ∧ w.cell? ⟨g, off + i * 15 + 12, none⟩ = some (.int .i64 x.op) ∧ w.cell? ⟨g, off + i * 15 + 13, none⟩ = some (.string x.name) ∧ w.cell? ⟨g, off + i * 15 + 14, none⟩ = some (.int .i64 x.args) := by
  obtain ⟨g, off, h1, h2, h3⟩ := h i x hx
  exact ⟨g, off, h1, h2, h3 0 _ rfl, h3 1 _ rfl, h3 2 _ rfl, h3 3 _ rfl, h3 4 _ rfl, h3 5 _ rfl, h3 6 _ rfl, h3 7 _ rfl, h3 8 _ rfl, h3 9 _ rfl, h3 10 _ rfl, h3 11 _ rfl, h3 12 _ rfl, h3 13 _ rfl, h3 14 _ rfl⟩
theorem part_at' {L : List Pt} (h : Lies KP w A L) {i : Nat} {p : Pt} (hp : L[i]? = some p) : ∃ g off, A = some ⟨g, off, none⟩ ∧ g < w.heap.size ∧ w.cell? ⟨g, off + i * 3, none⟩ = some (.int .i64 p.d) ∧ w.cell? ⟨g, off + i * 3 + 1, none⟩ = some (.int .i64 p.bi) ∧ w.cell? ⟨g, off + i * 3 + 2, none⟩ = some (.bool p.m) := by
  obtain ⟨g, off, h1, h2, h3⟩ := h i p hp
  exact ⟨g, off, h1, h2, h3 0 _ rfl, h3 1 _ rfl, h3 2 _ rfl⟩
end
attribute [local go_sem] Cls
def depV : Option Nat → Value
  | some d => .tuple #[.int .i64 d, .bool true]
  | none => .tuple #[.int .i64 0, .bool false]
theorem depth_size {Ns : List Nd} (h : Ns.length < 1 ∨ 1024 < Ns.length) : depthN Ns = none := by
  unfold depthN
  rw [if_pos h]
theorem depth_run {Ns : List Nd} (h : ¬ (Ns.length < 1 ∨ 1024 < Ns.length)) (hr : runN Ns [] = none) : depthN Ns = none := by
  unfold depthN
  rw [if_neg h, hr]
theorem depth_many {Ns : List Nd} {st : List Pt} (h : ¬ (Ns.length < 1 ∨ 1024 < Ns.length)) (hr : runN Ns [] = some st) (hl : st.length ≠ 1) : depthN Ns = none := by
  unfold depthN
  rw [if_neg h, hr]
  match st, hl with
  | [], _ => rfl
  | [p], hl => exact absurd rfl hl
  | p :: q :: st, _ => rfl
theorem depth_one {Ns : List Nd} {p : Pt} (h : ¬ (Ns.length < 1 ∨ 1024 < Ns.length)) (hr : runN Ns [] = some [p]) : depthN Ns = if p.m = true then none else some p.d := by
  unfold depthN
  rw [if_neg h, hr]

set_option maxHeartbeats 6400000 in
set_option maxRecDepth 100000 in
theorem depth_any (Ns : List Nd) (A : Option Addr) (cap : Nat) (w : World) (hA : Lies KN w A Ns) (hN : ∀ n, n ∈ Ns → rngN n) :
    Calls Try.prog 22 #[.agg #[.slice A Ns.length cap]] w fun e w' => e = .returned (depV (depthN Ns)) ∧ Below w.heap.size w w' := by
  obtain ⟨D, hD⟩ : ∃ D, D = depthN Ns := ⟨_, rfl⟩
  rw [← hD]
  have HD := Lib.hid hD
  have HN := Lib.hid hN
  clear hD hN
  by_cases hs : Ns.length < 1 ∨ 1024 < Ns.length
  · have HF : Hid (D = none) := HD.out.trans (depth_size hs)
    rcases hs with hs | hs
    · go_enter Try.func22, Try.ntmps22
      go_wp2_with fail
      exact bodyPost_ret (v := .tuple #[.int .i64 0, .bool false]) (by simp [results, Try.results22, go_sem]) rfl ⟨by rw [HF.out]; rfl, bel_alloc (bel_refl w) _⟩
    · go_enter Try.func22, Try.ntmps22
      go_wp2_with fail
      exact bodyPost_ret (v := .tuple #[.int .i64 0, .bool false]) (by simp [results, Try.results22, go_sem]) rfl ⟨by rw [HF.out]; rfl, bel_alloc (bel_refl w) _⟩
  have h1 : 1 ≤ Ns.length := by omega
  have h2 : Ns.length ≤ 1024 := by omega
  have HS := Lib.hid hs
  clear hs
  go_enter Try.func22, Try.ntmps22
  go_wp2_with fail
  have hw' := bel_alloc (bel_refl w) (.cells #[.slice A Ns.length cap] 24)
  go_loopw [4, 28] (fun s4 s28 wr => ∃ (i : Nat) (st : List Pt), i ≤ Ns.length ∧ s28 = .int .i64 i ∧ OL KP wr w.heap.size s4 st ∧ Good i st ∧ runN (Ns.take i) [] = some st ∧ Below w.heap.size w wr) (fun _ s28 _ => Ns.length - (intOf s28).toNat)
  case atStart => exact ⟨0, [], Nat.zero_le _, rfl, OL.nil _ _, good_nil, rfl, hw'⟩
  case round =>
    obtain ⟨i, st, hi, rfl, hO, hG, hR, hW⟩ := hrel
    clear hw'
    have HR := Lib.hid hR
    have HG := Lib.hid hG
    have hst := hG.1
    clear hR hG
    obtain ⟨Ad, cp, rfl, hcp, hcm, HL, HAd⟩ := hO.see
    have hsz := hW.size
    by_cases hil : i < Ns.length
    · obtain ⟨x, hx⟩ : ∃ x, Ns[i]? = some x := ⟨_, List.getElem?_eq_getElem hil⟩
      obtain ⟨g, off, rfl, hg, e0, e1, e2, e3, e4, e5, e6, e7, e8, e9, e10, e11, e12, e13, e14⟩ := node_at (hA.below hW) hx
      have hrng := HN.out x (List.mem_of_getElem? hx)
      obtain ⟨hn1, ⟨hro1, hro2⟩, ⟨hop1, hop2⟩, ⟨har1, har2⟩⟩ := hrng
      have HT := Lib.hid (runN_take hx HR.out)
      have HX := Lib.hid hx
      clear hx
      have i0 : (0 : Int) ≤ (i : Int) := by omega
      have i1 : (i : Int) < (Ns.length : Int) := by omega
      obtain ⟨k, tag, num, str, is, code, row, col, t, l, b, r, op, name, args⟩ := x
      dsimp only at e0 e1 e2 e3 e4 e5 e6 e7 e8 e9 e10 e11 e12 e13 e14 hn1 hro1 hro2 hop1 hop2 har1 har2
      go_wp2_with fail
      refine (pmay_any k tag num str is code row col t l b r op name args _ hn1).mono ?_
      rintro e w2 ⟨rfl, hb2⟩
      have hO2 := (hO.alloc (.cells #[.int .i64 k, .int .i64 tag, .int .i64 num, .string str, .bool is, .int .i64 code, .int .i64 row, .int .i64 col, .int .i64 t, .int .i64 l, .int .i64 b, .int .i64 r, .int .i64 op, .string name, .int .i64 args] 48)).below hb2
      have k6 := (Blk.new wr rfl 48 #[.int .i64 k, .int .i64 tag, .int .i64 num, .string str, .bool is, .int .i64 code, .int .i64 row, .int .i64 col, .int .i64 t, .int .i64 l, .int .i64 b, .int .i64 r, .int .i64 op, .string name, .int .i64 args]).below hb2
      have hW2 := bel_call (bel_alloc hW (.cells #[.int .i64 k, .int .i64 tag, .int .i64 num, .string str, .bool is, .int .i64 code, .int .i64 row, .int .i64 col, .int .i64 t, .int .i64 l, .int .i64 b, .int .i64 r, .int .i64 op, .string name, .int .i64 args] 48)) hb2
      have HL2 := (HL.below (bel_alloc (bel_refl wr) (.cells #[.int .i64 k, .int .i64 tag, .int .i64 num, .string str, .bool is, .int .i64 code, .int .i64 row, .int .i64 col, .int .i64 t, .int .i64 l, .int .i64 b, .int .i64 r, .int .i64 op, .string name, .int .i64 args] 48))).below hb2
      clear hb2 e0 e1 e2 e3 e4 e5 e6 e7 e8 e9 e10 e11 e12 e13 e14 hO HL
      have rd6 := k6.rd
      have lt6 := k6.lt
      have fz6 := k6.fz
      have hsz2 := hW2.size
      have hst2 : st.length ≤ 1024 := by omega
      cases hmay : mayN k tag num str is code row col t l b r op name args with
      | false =>
        have HF : Hid (D = none) := HD.out.trans (depth_run HS.out (runN_none (HT.out.trans (step_no hmay))))
        go_wp2_with fail
        exact bodyPost_ret (v := .tuple #[.int .i64 0, .bool false]) (by simp [results, Try.results22, go_sem]) rfl ⟨by rw [HF.out]; rfl, hW2⟩
      | true =>
        by_cases h3 : k = 3
        · --ARM3
          subst h3
          have HT2 := Lib.hid (HT.out.trans (step_rect hmay rfl))
          clear hmay
          go_wp2_with (at_builtin; go_must (refine wp_ol_append info_kp rfl Try.underlying58 rfl _ _ rfl rfl (OL.alloc hO2 (.cells #[.int .i64 0, .int .i64 7, .bool true] 61)) (M := [⟨0, 7, true⟩]) (c := 1) rfl rfl (Lies.blk (Blk.new w2 rfl 61 #[.int .i64 0, .int .i64 7, .bool true]) rfl) (by unfold maxLen; omega) (by show (_ + 1) * 24 ≤ _; omega) (by simp; omega) ?_); intro v7 w7 hO7 hg7)
          have hLT : ∀ z, Value.ownBlock (.slice Ad st.length cp) = some z → w.heap.size ≤ z := fun z hz => (hO2.lt z hz).1
          go_roundw
          case rel => exact ⟨i + 1, _, by omega, by go_num, hO7, good_push HG.out (Nat.zero_le _) (by decide), HT2.out, bel_grown (bel_alloc hW2 _) hg7 hLT⟩
          case measure => simp [intOf]; omega
        by_cases h5 : k = 5
        · --ARM5
          subst h5
          clear h3
          obtain ⟨ha0, ha16⟩ := mayN_args hmay
          obtain ⟨a, rfl⟩ : ∃ a : Nat, args = (a : Int) := ⟨args.toNat, by omega⟩
          by_cases hlt : st.length < a
          · have HF : Hid (D = none) := HD.out.trans (depth_run HS.out (runN_none (HT.out.trans (step_call_no hmay rfl (by show st.length < ((a : Nat) : Int).toNat; omega)))))
            clear hmay
            go_wp2_with fail
            exact bodyPost_ret (v := .tuple #[.int .i64 0, .bool false]) (by simp [results, Try.results22, go_sem]) rfl ⟨by rw [HF.out]; rfl, hW2⟩
          · obtain ⟨m, hm⟩ : ∃ m, st.length = m + a := ⟨st.length - a, by omega⟩
            have hml : m ≤ st.length := by omega
            have hsc := step_call (x := ⟨5, tag, num, str, is, code, row, col, t, l, b, r, op, name, ((a : Nat) : Int)⟩) (st := st) hmay rfl (by show ((a : Nat) : Int).toNat ≤ st.length; omega)
            dsimp only at hsc
            rw [Int.toNat_natCast, show st.length - a = m by omega] at hsc
            have HSTEP := Lib.hid (HT.out.trans hsc)
            have HLD : Hid ((st.drop m).length = a) := (show (st.drop m).length = a from by simp; omega)
            have HLT : Hid ((st.take m).length = m) := (show (st.take m).length = m from by simp; omega)
            have hw1 : IntKind.i64.wrap ((st.length : Int) - (a : Int)) = (m : Int) := by rw [IntWalk.i64_in _ (by omega)]; omega
            have hm0 : (0 : Int) ≤ (m : Int) := by omega
            have hm1 : (m : Int) ≤ (st.length : Int) := by omega
            have hm2 : (m : Int) ≤ (cp : Int) := by omega
            have hsub : st.length - m = a := by omega
            have HM := Lib.hid hm
            clear hmay hsc hm
            rcases HAd with rfl | ⟨ga, rfl, hga1, hga2⟩
            · have hX : Lies KP w2 none (st.drop m) := by
                rw [List.drop_eq_nil_of_le (by have h := HL2; have := (ol_none hO2).1; omega)]
                exact Lies.nil _ _
              go_wp2_with fail
              go_loopw [12, 120] (fun s12 s120 wy => ∃ j : Nat, j ≤ a ∧ s120 = .int .i64 j ∧ s12 = .int .i64 (mxd ((st.drop m).take j)) ∧ Below w2.heap.size w2 wy) (fun _ s120 _ => a - (intOf s120).toNat)
              case atStart => exact ⟨0, Nat.zero_le _, rfl, by rw [List.take_zero]; rfl, bel_refl w2⟩
              case round =>
                obtain ⟨j, hj, rfl, rfl, hI⟩ := hrel
                by_cases hja : j < a
                · obtain ⟨p, hp⟩ : ∃ p, (st.drop m)[j]? = some p := ⟨_, List.getElem?_eq_getElem (by rw [HLD.out]; exact hja)⟩
                  obtain ⟨gx, ox, hXe, hgx, c0, c1, c2⟩ := part_at' (hX.below hI) hp
                  cases hXe
                · obtain rfl : j = a := by omega
                  rw [List.take_of_length_le (Nat.le_of_eq HLD.out)]
                  have hmx := good_mxd HG.out m
                  obtain ⟨mx, hmxe⟩ : ∃ mx, mx = mxd (st.drop m) := ⟨_, rfl⟩
                  rw [← hmxe] at hmx ⊢
                  have HMX := Lib.hid hmxe
                  clear hmxe
                  replace k6 := k6.below hI
                  replace rd6 := k6.rd
                  replace lt6 := k6.lt
                  have hO3 := hO2.below hI
                  have hW3 := bel_call hW2 hI
                  have hsz3 := hW3.size
                  have hbz : w.heap.size ≤ (wr.alloc (.cells #[.int .i64 ((mx : Int) + 1), .int .i64 7, .bool false] 61)).heap.size := size1 hsz3 _
                  have hO4 := OL.alloc (hO3.take m hml) (.cells #[.int .i64 ((mx : Int) + 1), .int .i64 7, .bool false] 61)
                  have hLT : ∀ z, Value.ownBlock (.slice none m cp) = some z → w.heap.size ≤ z := fun z hz => (hO3.lt z hz).1
                  go_wp2_with (at_builtin; go_must (refine wp_ol_append info_kp rfl Try.underlying58 rfl _ _ rfl rfl hO4 (M := [⟨mx + 1, 7, false⟩]) (c := 1) rfl rfl (Lies.blk (Blk.new wr rfl 61 #[.int .i64 ((mx : Int) + 1), .int .i64 7, .bool false]) rfl) (by rw [HLT.out]; unfold maxLen; omega) (by show (_ + 1) * 24 ≤ _; rw [HLT.out]; omega) hbz ?_); intro v7 w7 hO7 hg7)
                  go_roundw
                  case rel => exact ⟨i + 1, _, by omega, by go_num, hO7, good_put HG.out hml (by show mx + 1 ≤ _; omega) (Nat.le_refl 7), HSTEP.out.trans (by rw [← HMX.out]), bel_grown (bel_alloc hW3 _) hg7 hLT⟩
                  case measure => simp [intOf]; omega

            · by_cases hcm' : cp = m
              · have hX := HL2.cut (a := m) hcp
                rw [if_pos hcm'] at hX
                have hcmT : (cp = m) = True := eq_true hcm'
                have hcmT' : (m = cp) = True := eq_true hcm'.symm
                clear hcm'
                go_wp2_with fail
                go_loopw [12, 120] (fun s12 s120 wy => ∃ j : Nat, j ≤ a ∧ s120 = .int .i64 j ∧ s12 = .int .i64 (mxd ((st.drop m).take j)) ∧ Below w2.heap.size w2 wy) (fun _ s120 _ => a - (intOf s120).toNat)
                case atStart => exact ⟨0, Nat.zero_le _, rfl, by rw [List.take_zero]; rfl, bel_refl w2⟩
                case round =>
                  obtain ⟨j, hj, rfl, rfl, hI⟩ := hrel
                  by_cases hja : j < a
                  · obtain ⟨p, hp⟩ : ∃ p, (st.drop m)[j]? = some p := ⟨_, List.getElem?_eq_getElem (by rw [HLD.out]; exact hja)⟩
                    obtain ⟨gx, ox, hXe, hgx, c0, c1, c2⟩ := part_at' (hX.below hI) hp
                    cases hXe
                    try simp only [Nat.zero_add] at c0 c1 c2
                    have hpd := HG.out.2 p (List.mem_of_mem_drop (List.mem_of_getElem? hp))
                    have HMT := Lib.hid (mxd_take (st.drop m) j p hp)
                    have hmx := mxd_le ((st.drop m).take j) i (fun q hq => (HG.out.2 q (List.mem_of_mem_drop (List.mem_of_mem_take hq))).1)
                    obtain ⟨mx, hmxe⟩ : ∃ mx, mx = mxd ((st.drop m).take j) := ⟨_, rfl⟩
                    rw [← hmxe] at hmx ⊢
                    have HMX := Lib.hid hmxe
                    clear hmxe hp
                    obtain ⟨pd, pb, pm⟩ := p
                    dsimp only at c0 c1 c2 hpd
                    have j0 : (0 : Int) ≤ (j : Int) := by omega
                    have j1 : (j : Int) < (a : Int) := by omega
                    have hIsz := hI.size
                    by_cases hlt2 : mx < pd
                    · have hc1 : decide ((mx : Int) < (pd : Int)) = true := by simp; omega
                      go_wp2_with fail
                      go_roundw
                      case rel => exact ⟨j + 1, by omega, by go_num, by rw [HMT.out, ← HMX.out, show max mx pd = pd by omega], bel_alloc hI _⟩
                      case measure => simp [intOf]; omega
                    · have hc1 : decide ((mx : Int) < (pd : Int)) = false := by simp; omega
                      go_wp2_with fail
                      go_roundw
                      case rel => exact ⟨j + 1, by omega, by go_num, by rw [HMT.out, ← HMX.out, show max mx pd = mx by omega], bel_alloc hI _⟩
                      case measure => simp [intOf]; omega
                  · obtain rfl : j = a := by omega
                    rw [List.take_of_length_le (Nat.le_of_eq HLD.out)]
                    have hmx := good_mxd HG.out m
                    obtain ⟨mx, hmxe⟩ : ∃ mx, mx = mxd (st.drop m) := ⟨_, rfl⟩
                    rw [← hmxe] at hmx ⊢
                    have HMX := Lib.hid hmxe
                    clear hmxe
                    replace k6 := k6.below hI
                    replace rd6 := k6.rd
                    replace lt6 := k6.lt
                    have hO3 := hO2.below hI
                    have hW3 := bel_call hW2 hI
                    have hsz3 := hW3.size
                    have hbz : w.heap.size ≤ (wr.alloc (.cells #[.int .i64 ((mx : Int) + 1), .int .i64 7, .bool false] 61)).heap.size := size1 hsz3 _
                    have hO4 := OL.alloc (hO3.take m hml) (.cells #[.int .i64 ((mx : Int) + 1), .int .i64 7, .bool false] 61)
                    have hLT : ∀ z, Value.ownBlock (.slice (some ⟨ga, 0, none⟩) m cp) = some z → w.heap.size ≤ z := fun z hz => (hO3.lt z hz).1
                    go_wp2_with (at_builtin; go_must (refine wp_ol_append info_kp rfl Try.underlying58 rfl _ _ rfl rfl hO4 (M := [⟨mx + 1, 7, false⟩]) (c := 1) rfl rfl (Lies.blk (Blk.new wr rfl 61 #[.int .i64 ((mx : Int) + 1), .int .i64 7, .bool false]) rfl) (by rw [HLT.out]; unfold maxLen; omega) (by show (_ + 1) * 24 ≤ _; rw [HLT.out]; omega) hbz ?_); intro v7 w7 hO7 hg7)
                    go_roundw
                    case rel => exact ⟨i + 1, _, by omega, by go_num, hO7, good_put HG.out hml (by show mx + 1 ≤ _; omega) (Nat.le_refl 7), HSTEP.out.trans (by rw [← HMX.out]), bel_grown (bel_alloc hW3 _) hg7 hLT⟩
                    case measure => simp [intOf]; omega

              · have hX := HL2.cut (a := m) hcp
                rw [if_neg hcm'] at hX
                have hX' : Lies KP w2 (some ⟨ga, m * 3, none⟩) (st.drop m) := hX
                clear hX
                go_wp2_with fail
                go_loopw [12, 120] (fun s12 s120 wy => ∃ j : Nat, j ≤ a ∧ s120 = .int .i64 j ∧ s12 = .int .i64 (mxd ((st.drop m).take j)) ∧ Below w2.heap.size w2 wy) (fun _ s120 _ => a - (intOf s120).toNat)
                case atStart => exact ⟨0, Nat.zero_le _, rfl, by rw [List.take_zero]; rfl, bel_refl w2⟩
                case round =>
                  obtain ⟨j, hj, rfl, rfl, hI⟩ := hrel
                  by_cases hja : j < a
                  · obtain ⟨p, hp⟩ : ∃ p, (st.drop m)[j]? = some p := ⟨_, List.getElem?_eq_getElem (by rw [HLD.out]; exact hja)⟩
                    obtain ⟨gx, ox, hXe, hgx, c0, c1, c2⟩ := part_at' (hX'.below hI) hp
                    cases hXe
                    try simp only [Nat.zero_add] at c0 c1 c2
                    have hpd := HG.out.2 p (List.mem_of_mem_drop (List.mem_of_getElem? hp))
                    have HMT := Lib.hid (mxd_take (st.drop m) j p hp)
                    have hmx := mxd_le ((st.drop m).take j) i (fun q hq => (HG.out.2 q (List.mem_of_mem_drop (List.mem_of_mem_take hq))).1)
                    obtain ⟨mx, hmxe⟩ : ∃ mx, mx = mxd ((st.drop m).take j) := ⟨_, rfl⟩
                    rw [← hmxe] at hmx ⊢
                    have HMX := Lib.hid hmxe
                    clear hmxe hp
                    obtain ⟨pd, pb, pm⟩ := p
                    dsimp only at c0 c1 c2 hpd
                    have j0 : (0 : Int) ≤ (j : Int) := by omega
                    have j1 : (j : Int) < (a : Int) := by omega
                    have hIsz := hI.size
                    by_cases hlt2 : mx < pd
                    · have hc1 : decide ((mx : Int) < (pd : Int)) = true := by simp; omega
                      go_wp2_with fail
                      go_roundw
                      case rel => exact ⟨j + 1, by omega, by go_num, by rw [HMT.out, ← HMX.out, show max mx pd = pd by omega], bel_alloc hI _⟩
                      case measure => simp [intOf]; omega
                    · have hc1 : decide ((mx : Int) < (pd : Int)) = false := by simp; omega
                      go_wp2_with fail
                      go_roundw
                      case rel => exact ⟨j + 1, by omega, by go_num, by rw [HMT.out, ← HMX.out, show max mx pd = mx by omega], bel_alloc hI _⟩
                      case measure => simp [intOf]; omega
                  · obtain rfl : j = a := by omega
                    rw [List.take_of_length_le (Nat.le_of_eq HLD.out)]
                    have hmx := good_mxd HG.out m
                    obtain ⟨mx, hmxe⟩ : ∃ mx, mx = mxd (st.drop m) := ⟨_, rfl⟩
                    rw [← hmxe] at hmx ⊢
                    have HMX := Lib.hid hmxe
                    clear hmxe
                    replace k6 := k6.below hI
                    replace rd6 := k6.rd
                    replace lt6 := k6.lt
                    have hO3 := hO2.below hI
                    have hW3 := bel_call hW2 hI
                    have hsz3 := hW3.size
                    have hbz : w.heap.size ≤ (wr.alloc (.cells #[.int .i64 ((mx : Int) + 1), .int .i64 7, .bool false] 61)).heap.size := size1 hsz3 _
                    have hO4 := OL.alloc (hO3.take m hml) (.cells #[.int .i64 ((mx : Int) + 1), .int .i64 7, .bool false] 61)
                    have hLT : ∀ z, Value.ownBlock (.slice (some ⟨ga, 0, none⟩) m cp) = some z → w.heap.size ≤ z := fun z hz => (hO3.lt z hz).1
                    go_wp2_with (at_builtin; go_must (refine wp_ol_append info_kp rfl Try.underlying58 rfl _ _ rfl rfl hO4 (M := [⟨mx + 1, 7, false⟩]) (c := 1) rfl rfl (Lies.blk (Blk.new wr rfl 61 #[.int .i64 ((mx : Int) + 1), .int .i64 7, .bool false]) rfl) (by rw [HLT.out]; unfold maxLen; omega) (by show (_ + 1) * 24 ≤ _; rw [HLT.out]; omega) hbz ?_); intro v7 w7 hO7 hg7)
                    go_roundw
                    case rel => exact ⟨i + 1, _, by omega, by go_num, hO7, good_put HG.out hml (by show mx + 1 ≤ _; omega) (Nat.le_refl 7), HSTEP.out.trans (by rw [← HMX.out]), bel_grown (bel_alloc hW3 _) hg7 hLT⟩
                    case measure => simp [intOf]; omega

        by_cases h4 : k = 4
        · --ARM4
          subst h4
          clear h3 h5
          have HMAY := Lib.hid hmay
          clear hmay
          obtain ⟨q, hq⟩ : ∃ q, q = opq op := ⟨_, rfl⟩
          have hq12 : q = 1 ∨ q = 2 := by
            rcases opq_is op with ⟨h, _⟩ | ⟨h, _⟩ <;> omega
          have HQ := Lib.hid hq
          go_upto_region 15 with fail
          go_cut [56] (fun s56 wx => s56 = .bool (decide (q = 1)) ∧ wx = w2)
          case first =>
            rcases opq_is op with ⟨ho, rfl | rfl⟩ | ⟨ho, hop⟩
            · have hqn : q = 1 := hq.trans ho
              clear hq ho hq12
              subst hqn
              go_wp2_with fail
              go_meet
              case rel => exact ⟨rfl, rfl⟩
            · have hqn : q = 1 := hq.trans ho
              clear hq ho hq12
              subst hqn
              go_wp2_with fail
              go_meet
              case rel => exact ⟨rfl, rfl⟩
            · have hqn : q = 2 := hq.trans ho
              clear hq ho hq12
              subst hqn
              have b1 : (op == 1) = false := by rw [beq_eq_false_iff_ne]; omega
              have b2 : (op == 2) = false := by rw [beq_eq_false_iff_ne]; omega
              clear hop
              go_wp2_with fail
              go_meet
              case rel => exact ⟨rfl, rfl⟩
          case rest =>
          clear hq
          obtain ⟨rfl, hwc⟩ := hcut
          obtain rfl := hwc.symm
          go_upto_if 56 with fail
          go_cut [7] (fun s7 wx => s7 = .int .i64 q ∧ wx = w2)
          case first =>
            rcases hq12 with rfl | rfl
            · go_wp2_with fail
              go_meet
              case rel => exact ⟨rfl, rfl⟩
            · go_wp2_with fail
              go_meet
              case rel => exact ⟨rfl, rfl⟩
          case rest =>
            obtain ⟨rfl, hwc⟩ := hcut
            obtain rfl := hwc.symm
            by_cases hlt : st.length < q
            · have HF : Hid (D = none) := HD.out.trans (depth_run HS.out (runN_none (HT.out.trans (step_op_no HMAY.out rfl (by rw [← HQ.out]; exact hlt)))))
              go_wp2_with fail
              exact bodyPost_ret (v := .tuple #[.int .i64 0, .bool false]) (by simp [results, Try.results22, go_sem]) rfl ⟨by rw [HF.out]; rfl, hW2⟩
            · obtain ⟨m, hm⟩ : ∃ m, st.length = m + q := ⟨st.length - q, by omega⟩
              obtain ⟨n1, hk⟩ : ∃ n1, st.length = n1 + 1 := ⟨st.length - 1, by omega⟩
              obtain ⟨a, ea⟩ : ∃ a, st[m]? = some a := ⟨_, List.getElem?_eq_getElem (by omega)⟩
              obtain ⟨b', eb⟩ : ∃ b', st[n1]? = some b' := ⟨_, List.getElem?_eq_getElem (by omega)⟩
              obtain ⟨ga, oa, rfl, hga, c0, c1, c2⟩ := part_at' HL2 ea
              obtain ⟨gb, ob, hv2, _, d0, d1, d2⟩ := part_at' HL2 eb
              injection hv2 with hv2
              injection hv2 with hv2 hv3 _
              subst hv2 hv3
              have hA2 := HG.out.2 a (List.mem_of_getElem? ea)
              have hB2 := HG.out.2 b' (List.mem_of_getElem? eb)
              have HEA := Lib.hid ea
              have HEB := Lib.hid eb
              obtain ⟨ad, ab, am⟩ := a
              obtain ⟨bd, bb, bm⟩ := b'
              dsimp only at c0 c1 c2 d0 d1 d2 hA2 hB2
              have hw1 : IntKind.i64.wrap ((st.length : Int) - (q : Int)) = (m : Int) := by rw [IntWalk.i64_in _ (by omega)]; omega
              have hw2 : IntKind.i64.wrap ((st.length : Int) - 1) = (n1 : Int) := by rw [IntWalk.i64_in _ (by omega)]; omega
              have hm0 : (0 : Int) ≤ (m : Int) := by omega
              have hm1 : (m : Int) < (st.length : Int) := by omega
              have hk0 : (0 : Int) ≤ (n1 : Int) := by omega
              have hk1 : (n1 : Int) < (st.length : Int) := by omega
              have hgl : ga < w2.heap.size := hga
              have hOw := hO2.lt ga rfl
              have hmc : (m : Int) ≤ (cp : Int) := by omega
              have hml : m ≤ st.length := by omega
              have HM := Lib.hid hm
              have HK := Lib.hid hk
              clear ea eb hcp hcm HAd hm hk
              go_upto_region 19 with fail
              go_cut [8, 9] (fun s8 s9 wx => ∃ p8 p9, s8 = .pointer (some ⟨p8, 0, none⟩) ∧ s9 = .pointer (some ⟨p9, 0, none⟩) ∧ Blk wx p8 61 #[.int .i64 ad, .int .i64 ab, .bool am] ∧ Blk wx p9 61 #[.int .i64 bd, .int .i64 bb, .bool bm] ∧ Below w2.heap.size w2 wx)
              case first =>
                obtain ⟨S, hSS⟩ : ∃ S : World → Prop, S = fun w' => w'.cell? ⟨ga, oa + m * 3, none⟩ = some (.int .i64 ad) ∧ w'.cell? ⟨ga, oa + m * 3 + 1, none⟩ = some (.int .i64 ab) ∧ w'.cell? ⟨ga, oa + m * 3 + 2, none⟩ = some (.bool am) ∧ w'.cell? ⟨ga, oa + n1 * 3, none⟩ = some (.int .i64 bd) ∧ w'.cell? ⟨ga, oa + n1 * 3 + 1, none⟩ = some (.int .i64 bb) ∧ w'.cell? ⟨ga, oa + n1 * 3 + 2, none⟩ = some (.bool bm) := ⟨_, rfl⟩
                have q0 := fun x => (held_of hSS x).1
                have q1 := fun x => (held_of hSS x).2.1
                have q2 := fun x => (held_of hSS x).2.2.1
                have q3 := fun x => (held_of hSS x).2.2.2.1
                have q4 := fun x => (held_of hSS x).2.2.2.2.1
                have q5 := fun x => (held_of hSS x).2.2.2.2.2
                have HSS := Lib.hid hSS
                have hBS : ∀ wx : World, Below w2.heap.size w2 wx → S wx := fun wx hb => held_in HSS.out ⟨(hb.cell (p := ⟨ga, _, none⟩) hgl).trans c0, (hb.cell (p := ⟨ga, _, none⟩) hgl).trans c1, (hb.cell (p := ⟨ga, _, none⟩) hgl).trans c2, (hb.cell (p := ⟨ga, _, none⟩) hgl).trans d0, (hb.cell (p := ⟨ga, _, none⟩) hgl).trans d1, (hb.cell (p := ⟨ga, _, none⟩) hgl).trans d2⟩
                have HBS := Lib.hid hBS
                clear hSS hBS
                have hS0 := HBS.out _ (bel_drew (bel_refl w2))
                haveI : Nonempty (Held S) := ⟨⟨_, hS0⟩⟩
                refine wp_region_tree (S := S) 17 (.q 0 <| .q 1 <| .q 2 <| .q 3 <| .q 4 <| .q 5 <| .q 6 <| .q 7 <| .q 8 <| .q 9 <| .q 10 <| .q 11 <| .q 12 <| .fork 13 (.a 14 <| .a 15 <| .a 16 <| .done) 14 (.a 13 <| .a 15 <| .a 16 <| .done)) [] (by kernel_rfl) (by kernel_rfl) hS0 ?_
                repeat (refine tree_q (by rfl) (by rfl) (fun K hK => ?_); go_simp; refine hK _ ?_; clear hK K)
                refine tree_f (by rfl) (by rfl) (by rfl) (by rfl) (fun K hK => ?_) (fun K hK => ?_)
                · go_simp
                  refine hK _ _ (HBS.out _ (bel_drew (bel_alloc (bel_refl w2) (.cells #[.int .i64 0, .int .i64 0, .bool false] 61)))) ?_
                  clear hK K
                  refine tree_a (by rfl) (by rfl) (fun K hK => ?_)
                  go_simp
                  refine hK _ _ (HBS.out _ (bel_drew (bel_alloc (bel_alloc (bel_refl w2) (.cells #[.int .i64 0, .int .i64 0, .bool false] 61)) (.cells #[.int .i64 0, .int .i64 0, .bool false] 61)))) ?_
                  clear hK K
                  refine tree_a (by rfl) (by rfl) (fun K hK => ?_)
                  go_simp
                  refine hK _ _ (HBS.out _ (bel_drew (bel_alloc (bel_alloc (bel_refl w2) (.cells #[.int .i64 ad, .int .i64 ab, .bool am] 61)) (.cells #[.int .i64 0, .int .i64 0, .bool false] 61)))) ?_
                  clear hK K
                  refine tree_a (by rfl) (by rfl) (fun K hK => ?_)
                  go_simp
                  refine hK _ _ (HBS.out _ (bel_drew (bel_alloc (bel_alloc (bel_refl w2) (.cells #[.int .i64 ad, .int .i64 ab, .bool am] 61)) (.cells #[.int .i64 bd, .int .i64 bb, .bool bm] 61)))) ?_
                  clear hK K
                  refine tree_nil ?_
                  have k8 := ((Blk.new w2 rfl 61 #[.int .i64 ad, .int .i64 ab, .bool am]).alloc (.cells #[.int .i64 bd, .int .i64 bb, .bool bm] 61)).drew
                  have k9 := (Blk.new (w2.alloc (.cells #[.int .i64 ad, .int .i64 ab, .bool am] 61)) (g := w2.heap.size + 1) (by simp) 61 #[.int .i64 bd, .int .i64 bb, .bool bm]).drew
                  go_wp2_with fail
                  go_meet
                  case rel => exact ⟨_, _, rfl, rfl, k8, k9, (bel_drew (bel_alloc (bel_alloc (bel_refl w2) (.cells #[.int .i64 ad, .int .i64 ab, .bool am] 61)) (.cells #[.int .i64 bd, .int .i64 bb, .bool bm] 61)))⟩
                · go_simp
                  refine hK _ _ (HBS.out _ (bel_drew (bel_alloc (bel_refl w2) (.cells #[.int .i64 0, .int .i64 0, .bool false] 61)))) ?_
                  clear hK K
                  refine tree_a (by rfl) (by rfl) (fun K hK => ?_)
                  go_simp
                  refine hK _ _ (HBS.out _ (bel_drew (bel_alloc (bel_alloc (bel_refl w2) (.cells #[.int .i64 0, .int .i64 0, .bool false] 61)) (.cells #[.int .i64 0, .int .i64 0, .bool false] 61)))) ?_
                  clear hK K
                  refine tree_a (by rfl) (by rfl) (fun K hK => ?_)
                  go_simp
                  refine hK _ _ (HBS.out _ (bel_drew (bel_alloc (bel_alloc (bel_refl w2) (.cells #[.int .i64 0, .int .i64 0, .bool false] 61)) (.cells #[.int .i64 ad, .int .i64 ab, .bool am] 61)))) ?_
                  clear hK K
                  refine tree_a (by rfl) (by rfl) (fun K hK => ?_)
                  go_simp
                  refine hK _ _ (HBS.out _ (bel_drew (bel_alloc (bel_alloc (bel_refl w2) (.cells #[.int .i64 bd, .int .i64 bb, .bool bm] 61)) (.cells #[.int .i64 ad, .int .i64 ab, .bool am] 61)))) ?_
                  clear hK K
                  refine tree_nil ?_
                  have k8 := (Blk.new (w2.alloc (.cells #[.int .i64 bd, .int .i64 bb, .bool bm] 61)) (g := w2.heap.size + 1) (by simp) 61 #[.int .i64 ad, .int .i64 ab, .bool am]).drew
                  have k9 := ((Blk.new w2 rfl 61 #[.int .i64 bd, .int .i64 bb, .bool bm]).alloc (.cells #[.int .i64 ad, .int .i64 ab, .bool am] 61)).drew
                  go_wp2_with fail
                  go_meet
                  case rel => exact ⟨_, _, rfl, rfl, k8, k9, (bel_drew (bel_alloc (bel_alloc (bel_refl w2) (.cells #[.int .i64 bd, .int .i64 bb, .bool bm] 61)) (.cells #[.int .i64 ad, .int .i64 ab, .bool am] 61)))⟩
              case rest =>
                obtain ⟨p8, p9, rfl, rfl, k8, k9, hb3⟩ := hcut
                have HSTEP := Lib.hid (step_opq (x := ⟨4, tag, num, str, is, code, row, col, t, l, b, r, op, name, args⟩) HMAY.out rfl HQ.out HM.out HK.out HEA.out HEB.out)
                have hO3 := hO2.below hb3
                have hW3 := bel_call hW2 hb3
                replace k6 := k6.below hb3
                clear hb3 HL2 c0 c1 c2 d0 d1 d2 hO2 hW2 hgl hga
                replace rd6 := k6.rd
                replace lt6 := k6.lt
                replace fz6 := k6.fz
                have rd8 := k8.rd
                have lt8 := k8.lt
                have rd9 := k9.rd
                have lt9 := k9.lt
                cases am with
                | true =>
                  have HF : Hid (D = none) := HD.out.trans (depth_run HS.out (runN_none (HT.out.trans (HSTEP.out.trans (if_pos (.inl rfl))))))
                  go_wp2_with fail
                  exact bodyPost_ret (v := .tuple #[.int .i64 0, .bool false]) (by simp [results, Try.results22, go_sem]) rfl ⟨by rw [HF.out]; rfl, hW3⟩
                | false =>
                cases bm with
                | true =>
                  have HF : Hid (D = none) := HD.out.trans (depth_run HS.out (runN_none (HT.out.trans (HSTEP.out.trans (if_pos (.inr rfl))))))
                  go_wp2_with fail
                  exact bodyPost_ret (v := .tuple #[.int .i64 0, .bool false]) (by simp [results, Try.results22, go_sem]) rfl ⟨by rw [HF.out]; rfl, hW3⟩
                | false =>
                have hllv := lvl_le op
                have hlev := level_any op wc
                have HST := Lib.hid (HT.out.trans (HSTEP.out.trans (if_neg (by simp))))
                dsimp only at HST
                obtain ⟨lv, hlv⟩ : ∃ lv, lv = lvl op := ⟨_, rfl⟩
                rw [← hlv] at hllv hlev HST
                clear HSTEP hlv
                go_wp2_with fail
                refine hlev.mono ?_
                rintro e w4 ⟨rfl, rfl⟩
                go_wp2_with fail
                refine (inside_any ⟨ad, ab, false⟩ lv _ (by show ad ≤ _; omega) (by show ab ≤ _; omega)).mono ?_
                rintro e w5 ⟨rfl, hb5⟩
                have hdd := insd_le ⟨ad, ab, false⟩ i lv hA2.1
                obtain ⟨da, hda⟩ : ∃ da, da = insd ⟨ad, ab, false⟩ lv := ⟨_, rfl⟩
                rw [← hda] at hdd ⊢
                have HDA := Lib.hid hda
                replace hO3 := hO3.below hb5
                replace hW3 := bel_call hW3 hb5
                replace k9 := k9.below hb5
                replace rd9 := k9.rd
                replace lt9 := k9.lt
                clear hb5 hda rd8 lt8 rd6 lt6 fz6 k6 k8 hlev
                have HLT : Hid ((st.take m).length = m) := (show (st.take m).length = m from by simp; omega)
                have hLT : ∀ z, Value.ownBlock (.slice (some ⟨ga, oa, none⟩) m cp) = some z → w.heap.size ≤ z := fun z hz => (hO3.lt z hz).1
                have hsz3 := hW3.size
                rcases hq12 with rfl | rfl
                · obtain rfl : m = n1 := by have h1 := HM.out; have h2 := HK.out; omega
                  have hbz : w.heap.size ≤ (w5.alloc (.cells #[.int .i64 da, .int .i64 lv, .bool false] 61)).heap.size := size1 hsz3 _
                  have hO4 := OL.alloc (hO3.take m hml) (.cells #[.int .i64 da, .int .i64 lv, .bool false] 61)
                  go_wp2_with (at_builtin; go_must (refine wp_ol_append info_kp rfl Try.underlying58 rfl _ _ rfl rfl hO4 (M := [⟨da, lv, false⟩]) (c := 1) rfl rfl (Lies.blk (Blk.new w5 rfl 61 #[.int .i64 da, .int .i64 lv, .bool false]) rfl) (by rw [HLT.out]; unfold maxLen; omega) (by show (_ + 1) * 24 ≤ _; rw [HLT.out]; omega) hbz ?_); intro v7 w7 hO7 hg7)
                  go_roundw
                  case rel => exact ⟨i + 1, _, by omega, by go_num, hO7, good_put HG.out hml (by show da ≤ _; omega) (by show lv ≤ _; omega), HST.out.trans (by simp [HDA.out]), bel_grown (bel_alloc hW3 _) hg7 hLT⟩
                  case measure => simp [intOf]; omega

                · have hw3 : IntKind.i64.wrap ((st.length : Int) - 2) = (m : Int) := hw1
                  have wl : IntKind.i64.wrap ((lv : Int) + 1) = ((lv + 1 : Nat) : Int) := by rw [IntWalk.i64_in _ (by omega)]; omega
                  go_wp2_with fail
                  refine (inside_any ⟨bd, bb, false⟩ (lv + 1) _ (by show bd ≤ _; omega) (by show bb ≤ _; omega)).mono ?_
                  rintro e w6 ⟨rfl, hb6⟩
                  have hde := insd_le ⟨bd, bb, false⟩ i (lv + 1) hB2.1
                  obtain ⟨db, hdb⟩ : ∃ db, db = insd ⟨bd, bb, false⟩ (lv + 1) := ⟨_, rfl⟩
                  rw [← hdb] at hde ⊢
                  have HDB := Lib.hid hdb
                  replace hO3 := hO3.below hb6
                  replace hW3 := bel_call hW3 hb6
                  clear hb6 hdb rd9 lt9 k9
                  replace hsz3 := hW3.size
                  by_cases hlt2 : da < db
                  · have hc1 : decide ((da : Int) < (db : Int)) = true := by simp; omega
                    have hbz : w.heap.size ≤ (w6.alloc (.cells #[.int .i64 db, .int .i64 lv, .bool false] 61)).heap.size := size1 hsz3 _
                    have hO4 := OL.alloc (hO3.take m hml) (.cells #[.int .i64 db, .int .i64 lv, .bool false] 61)
                    go_wp2_with (at_builtin; go_must (refine wp_ol_append info_kp rfl Try.underlying58 rfl _ _ rfl rfl hO4 (M := [⟨db, lv, false⟩]) (c := 1) rfl rfl (Lies.blk (Blk.new w6 rfl 61 #[.int .i64 db, .int .i64 lv, .bool false]) rfl) (by rw [HLT.out]; unfold maxLen; omega) (by show (_ + 1) * 24 ≤ _; rw [HLT.out]; omega) hbz ?_); intro v7 w7 hO7 hg7)
                    go_roundw
                    case rel => exact ⟨i + 1, _, by omega, by go_num, hO7, good_put HG.out hml (by show db ≤ _; omega) (by show lv ≤ _; omega), HST.out.trans (by simp [← HDA.out, ← HDB.out]; omega), bel_grown (bel_alloc hW3 _) hg7 hLT⟩
                    case measure => simp [intOf]; omega

                  · have hc1 : decide ((da : Int) < (db : Int)) = false := by simp; omega
                    have hbz : w.heap.size ≤ (w6.alloc (.cells #[.int .i64 da, .int .i64 lv, .bool false] 61)).heap.size := size1 hsz3 _
                    have hO4 := OL.alloc (hO3.take m hml) (.cells #[.int .i64 da, .int .i64 lv, .bool false] 61)
                    go_wp2_with (at_builtin; go_must (refine wp_ol_append info_kp rfl Try.underlying58 rfl _ _ rfl rfl hO4 (M := [⟨da, lv, false⟩]) (c := 1) rfl rfl (Lies.blk (Blk.new w6 rfl 61 #[.int .i64 da, .int .i64 lv, .bool false]) rfl) (by rw [HLT.out]; unfold maxLen; omega) (by show (_ + 1) * 24 ≤ _; rw [HLT.out]; omega) hbz ?_); intro v7 w7 hO7 hg7)
                    go_roundw
                    case rel => exact ⟨i + 1, _, by omega, by go_num, hO7, good_put HG.out hml (by show da ≤ _; omega) (by show lv ≤ _; omega), HST.out.trans (by simp [← HDA.out, ← HDB.out]; omega), bel_grown (bel_alloc hW3 _) hg7 hLT⟩
                    case measure => simp [intOf]; omega

        --ELSE
        have b3 : (k == 3) = false := by rw [beq_eq_false_iff_ne]; exact h3
        have b4 : (k == 4) = false := by rw [beq_eq_false_iff_ne]; exact h4
        have b5 : (k == 5) = false := by rw [beq_eq_false_iff_ne]; exact h5
        have HT2 := Lib.hid (HT.out.trans (step_else hmay h3 h4 h5))
        clear hmay h3 h4 h5
        go_wp2_with (at_builtin; go_must (refine wp_ol_append info_kp rfl Try.underlying58 rfl _ _ rfl rfl (OL.alloc hO2 (.cells #[.int .i64 0, .int .i64 7, .bool false] 61)) (M := [⟨0, 7, false⟩]) (c := 1) rfl rfl (Lies.blk (Blk.new w2 rfl 61 #[.int .i64 0, .int .i64 7, .bool false]) rfl) (by unfold maxLen; omega) (by show (_ + 1) * 24 ≤ _; omega) (by simp; omega) ?_); intro v7 w7 hO7 hg7)
        have hLT : ∀ z, Value.ownBlock (.slice Ad st.length cp) = some z → w.heap.size ≤ z := fun z hz => (hO2.lt z hz).1
        go_roundw
        case rel => exact ⟨i + 1, _, by omega, by go_num, hO7, good_push HG.out (Nat.zero_le _) (Nat.le_refl 7), HT2.out, bel_grown (bel_alloc hW2 _) hg7 hLT⟩
        case measure => simp [intOf]; omega
    · obtain rfl : i = Ns.length := by omega
      have HF := Lib.hid HR.out
      rw [List.take_length] at HF
      by_cases h1' : st.length = 1
      · obtain ⟨p, hp⟩ : ∃ p, st = [p] := List.length_eq_one_iff.1 h1'
        subst hp
        obtain ⟨ga, oa, rfl, hga, c0, c1, c2⟩ := part_at' HL (i := 0) (p := p) rfl
        obtain ⟨pd, pb, pm⟩ := p
        dsimp only at c0 c1 c2
        rw [Nat.zero_mul, Nat.add_zero] at c0 c1 c2
        have HRR := Lib.hid (depth_one HS.out HF.out)
        cases pm with
        | true =>
          have HF : Hid (D = none) := HD.out.trans HRR.out
          go_wp2_with fail
          exact bodyPost_ret (v := .tuple #[.int .i64 0, .bool false]) (by simp [results, Try.results22, go_sem]) rfl ⟨by rw [HF.out]; rfl, hW⟩
        | false =>
          have HF : Hid (D = some pd) := HD.out.trans HRR.out
          go_wp2_with fail
          exact bodyPost_ret (v := .tuple #[.int .i64 pd, .bool true]) (by simp [results, Try.results22, go_sem]) rfl ⟨by rw [HF.out]; rfl, hW⟩
      · have HF : Hid (D = none) := HD.out.trans (depth_many HS.out HF.out h1')
        have hne : (st.length : Int) ≠ 1 := by omega
        have b1 : ((st.length : Int) != 1) = true := by rw [bne_iff_ne]; exact hne
        go_wp2_with fail
        exact bodyPost_ret (v := .tuple #[.int .i64 0, .bool false]) (by simp [results, Try.results22, go_sem]) rfl ⟨by rw [HF.out]; rfl, hW⟩
end Go.Proofs.Ytifmfkofadhieaa

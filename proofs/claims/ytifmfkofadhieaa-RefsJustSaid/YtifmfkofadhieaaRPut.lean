/-
  Formulas: contract of orielref05.put. Conditions: at most 1024 nodes.
-/
import Derived.Test.YtifmfkofadhieaaROpen
import Derived.Test.YtifmfkofadhieaaRPart2
import Derived.Test.YtifmfkofadhieaaRPure
import Derived.Test.YtifmfkofadhieaaOlTake
import Derived.Test.YtifmfkofadhieaaFork
import Derived.Deep.DeepCutAuto
import Derived.Deep.CutBlock
namespace Go.Proofs.Ytifmfkofadhieaa
open Go.ChangeShapes Go.WideShapes Go.ChangeAt Go.RowKit Go.Deep
attribute [local go_sem] Cls

theorem node_at' {w : World} {Ns : List Nd} {g off : Nat} (h : Lies KN w (some ⟨g, off, none⟩) Ns) {i : Nat} {x : Nd} (hx : Ns[i]? = some x) : w.cell? ⟨g, off + i * 15, none⟩ = some (.int .i64 x.k) ∧ w.cell? ⟨g, off + i * 15 + 1, none⟩ = some (.int .i64 x.tag) ∧ w.cell? ⟨g, off + i * 15 + 2, none⟩ = some (.int .i64 x.num) ∧ w.cell? ⟨g, off + i * 15 + 3, none⟩ = some (.string x.str) ∧ w.cell? ⟨g, off + i * 15 + 4, none⟩ = some (.bool x.is) ∧ w.cell? ⟨g, off + i * 15 + 5, none⟩ = some (.int .i64 x.code) ∧ w.cell? ⟨g, off + i * 15 + 6, none⟩ = some (.int .i64 x.row) ∧ w.cell? ⟨g, off + i * 15 + 7, none⟩ = some (.int .i64 x.col) ∧ w.cell? ⟨g, off + i * 15 + 8, none⟩ = some (.int .i64 x.t) ∧ w.cell? ⟨g, off + i * 15 + 9, none⟩ = some (.int .i64 x.l) ∧ w.cell? ⟨g, off + i * 15 + 10, none⟩ = some (.int .i64 x.b) ∧ w.cell? ⟨g, off + i * 15 + 11, none⟩ = some (.int .i64 x.r) ∧ w.cell? ⟨g, off + i * 15 + 12, none⟩ = some (.int .i64 x.op) ∧ w.cell? ⟨g, off + i * 15 + 13, none⟩ = some (.string x.name) ∧ w.cell? ⟨g, off + i * 15 + 14, none⟩ = some (.int .i64 x.args) := by
  obtain ⟨g', off', h1, h2, h3⟩ := h i x hx
  cases h1
  exact ⟨h3 0 _ rfl, h3 1 _ rfl, h3 2 _ rfl, h3 3 _ rfl, h3 4 _ rfl, h3 5 _ rfl, h3 6 _ rfl, h3 7 _ rfl, h3 8 _ rfl, h3 9 _ rfl, h3 10 _ rfl, h3 11 _ rfl, h3 12 _ rfl, h3 13 _ rfl, h3 14 _ rfl⟩
theorem part_any (k tag num : Int) (str : ByteArray) (is : Bool) (code row col t l b r op : Int) (name : ByteArray) (args : Int) (A : Option Addr) (M : List Pt) (c : Nat) (w : World) (hM : Lies KR w A M) (hl : M.length ≤ 2000) (hd : ∀ p, p ∈ M → p.d ≤ 2000 ∧ p.bi ≤ 7) :
    Calls Try.prog 30 #[.agg #[.int .i64 k, .int .i64 tag, .int .i64 num, .string str, .bool is, .int .i64 code, .int .i64 row, .int .i64 col, .int .i64 t, .int .i64 l, .int .i64 b, .int .i64 r, .int .i64 op, .string name, .int .i64 args], .slice A M.length c] w fun e w' => e = .returned (ptV (partN k op M)) ∧ Below w.heap.size w w' := by
  by_cases h3 : k = 3
  · subst h3
    exact part_rect tag num str is code row col t l b r op name args A M.length c w
  by_cases h5 : k = 5
  · subst h5
    exact part_call tag num str is code row col t l b r op name args A M c w hM hl (fun p hp => (hd p hp).1)
  by_cases h4 : k = 4
  · subst h4
    exact part_op tag num str is code row col t l b r op name args A M c w hM hl hd
  · have : partN k op M = some ⟨0, 7, false⟩ := by
      unfold partN
      rw [if_neg h3, if_neg h5, if_neg h4]
    rw [this]
    exact part_one k tag num str is code row col t l b r op name args A M.length c w h3 h4 h5
theorem takes_pos {k tag num : Int} {str : ByteArray} {is : Bool} {code row col t l b r op : Int} {name : ByteArray} {args : Int} (h : mayN k tag num str is code row col t l b r op name args = true) : 0 ≤ takesI k op args ∧ (k = 5 → takesI k op args = args) := by
  unfold takesI
  by_cases h5 : k = 5
  · subst h5
    rw [if_pos rfl]
    exact ⟨(mayN_args h).1, fun _ => rfl⟩
  · rw [if_neg h5]
    refine ⟨?_, fun h => absurd h h5⟩
    split
    · split <;> omega
    · omega
/-- What put answers. -/
def Put (Ns : List Nd) (B : Nat) (e : Ending) (w' : World) : Prop := (∃ st v, runN Ns [] = some st ∧ Good Ns.length st ∧ e = .returned (.tuple #[v, .bool true]) ∧ OL KR w' B v st) ∨ (runN Ns [] = none ∧ e = .returned (.tuple #[.slice none 0 0, .bool false]))
theorem ptV_see (R : Option Pt) : ∃ (d b : Nat) (m ok : Bool), ptV R = .tuple #[.agg #[.int .i64 d, .int .i64 b, .bool m], .bool ok] ∧ (ok = false → R = none) ∧ (ok = true → R = some ⟨d, b, m⟩) := by
  cases R with
  | none => exact ⟨0, 0, false, false, rfl, fun _ => rfl, fun h => absurd h (by decide)⟩
  | some p => exact ⟨p.d, p.bi, p.m, true, rfl, fun h => absurd h (by decide), fun _ => rfl⟩
/-- A part's bounds behind a step. -/
theorem part_small {k op : Int} {M : List Pt} {n : Nat} {p : Pt} (h : partN k op M = some p) (hM : ∀ q, q ∈ M → q.d ≤ n ∧ q.bi ≤ 7) : p.d ≤ n + 1 ∧ p.bi ≤ 7 := by
  unfold partN at h
  split at h
  · cases h; exact ⟨Nat.zero_le _, Nat.le_refl 7⟩
  split at h
  · cases h
    have := mxd_le M n fun q hq => (hM q hq).1
    exact ⟨by show mxd M + 1 ≤ _; omega, by show 7 ≤ 7; omega⟩
  split at h
  · split at h
    · cases h
    · cases h
      have := opd_le (lvl op) M n (fun q hq => (hM q hq).1) M.length
      have := lvl_le op
      exact ⟨by show opd _ _ _ ≤ _; omega, by show lvl op ≤ _; omega⟩
  · cases h; exact ⟨Nat.zero_le _, Nat.le_refl 7⟩

set_option maxHeartbeats 6400000 in
set_option maxRecDepth 100000 in
theorem put_any (Ns : List Nd) (A : Option Addr) (cap : Nat) (w : World) (hA : Lies KN w A Ns) (hN : ∀ n, n ∈ Ns → rngN n) (hl : Ns.length ≤ 1024) :
    Calls Try.prog 23 #[.slice A Ns.length cap] w fun e w' => Put Ns w.heap.size e w' ∧ Below w.heap.size w w' := by
  have HN := Lib.hid hN
  clear hN
  go_enter Try.func23, Try.ntmps23
  go_wp2_with fail
  go_loopw [4, 5] (fun s4 s5 wr => ∃ (i : Nat) (st : List Pt), i ≤ Ns.length ∧ s5 = .int .i64 i ∧ OL KR wr w.heap.size s4 st ∧ Good i st ∧ runN (Ns.take i) [] = some st ∧ Below w.heap.size w wr) (fun _ s5 _ => Ns.length - (intOf s5).toNat)
  case atStart => exact ⟨0, [], Nat.zero_le _, rfl, OL.nil _ _, good_nil, rfl, bel_refl w⟩
  case round =>
    obtain ⟨i, st, hi, rfl, hO, hG, hR, hW⟩ := hrel
    have HR := Lib.hid hR
    have HG := Lib.hid hG
    have hst := hG.1
    clear hR hG
    obtain ⟨Ad, cp, rfl, hcp, hcm, HL, HAd⟩ := hO.see
    by_cases hil : i < Ns.length
    · obtain ⟨x, hx⟩ : ∃ x, Ns[i]? = some x := ⟨_, List.getElem?_eq_getElem hil⟩
      obtain ⟨g, off, rfl, hg, _⟩ := (hA.below hW) i x hx
      have hrng := HN.out x (List.mem_of_getElem? hx)
      obtain ⟨hn1, ⟨hro1, hro2⟩, ⟨hop1, hop2⟩, ⟨har1, har2⟩⟩ := hrng
      have HT := Lib.hid (runN_take hx HR.out)
      have HX := Lib.hid hx
      clear hx
      have i0 : (0 : Int) ≤ (i : Int) := by omega
      have i1 : (i : Int) < (Ns.length : Int) := by omega
      obtain ⟨k, tag, num, str, is, code, row, col, t, l, b, r, op, name, args⟩ := x
      obtain ⟨e0, e1, e2, e3, e4, e5, e6, e7, e8, e9, e10, e11, e12, e13, e14⟩ := node_at' (hA.below hW) HX.out
      dsimp only at e0 e1 e2 e3 e4 e5 e6 e7 e8 e9 e10 e11 e12 e13 e14 hn1 hro1 hro2 hop1 hop2 har1 har2
      go_wp2_with fail
      refine (rnode_any k tag num str is code row col t l b r op name args _).mono ?_
      rintro e w2 ⟨rfl, hb2⟩
      replace hO := hO.below hb2
      replace hW := bel_call hW hb2
      replace HL := HL.below hb2
      clear hb2 e0 e1 e2 e3 e4 e5 e6 e7 e8 e9 e10 e11 e12 e13 e14
      obtain ⟨e0, e1, e2, e3, e4, e5, e6, e7, e8, e9, e10, e11, e12, e13, e14⟩ := node_at' (hA.below hW) HX.out
      dsimp only at e0 e1 e2 e3 e4 e5 e6 e7 e8 e9 e10 e11 e12 e13 e14
      go_wp2_with fail
      refine (takes_any k tag num str is code row col t l b r op name args _).mono ?_
      rintro e w3 ⟨rfl, hb3⟩
      replace hO := hO.below hb3
      replace hW := bel_call hW hb3
      replace HL := HL.below hb3
      clear hb3 e0 e1 e2 e3 e4 e5 e6 e7 e8 e9 e10 e11 e12 e13 e14
      cases hmay : mayN k tag num str is code row col t l b r op name args with
      | false =>
        have HF : Hid (runN Ns [] = none) := runN_none (HT.out.trans (step_no hmay))
        go_wp2_with fail
        exact bodyPost_ret (v := .tuple #[.slice none 0 0, .bool false]) (by simp [results, Try.results23, go_sem]) rfl ⟨.inr ⟨HF.out, rfl⟩, hW⟩
      | true =>
        obtain ⟨hT0, hT5⟩ := takes_pos hmay
        have HSTEP := Lib.hid (show stepN ⟨k, tag, num, str, is, code, row, col, t, l, b, r, op, name, args⟩ st = (if (st.length : Int) < takesI k op args then none else
          (partN k op (st.drop (st.length - (takesI k op args).toNat))).map fun p => st.take (st.length - (takesI k op args).toNat) ++ [p]) from step_doc hmay (fun h => by subst h; exact (mayN_args hmay).1))
        obtain ⟨T, hT⟩ : ∃ T, T = takesI k op args := ⟨_, rfl⟩
        rw [← hT] at hT0 HSTEP ⊢
        clear hT5 hT hmay
        by_cases hlt : (st.length : Int) < T
        · have HF : Hid (runN Ns [] = none) := runN_none (HT.out.trans (HSTEP.out.trans (if_pos hlt)))
          go_wp2_with fail
          exact bodyPost_ret (v := .tuple #[.slice none 0 0, .bool false]) (by simp [results, Try.results23, go_sem]) rfl ⟨.inr ⟨HF.out, rfl⟩, hW⟩
        · obtain ⟨a, rfl⟩ : ∃ a : Nat, T = (a : Int) := ⟨T.toNat, by omega⟩
          obtain ⟨m, hm⟩ : ∃ m, st.length = m + a := ⟨st.length - a, by omega⟩
          have HSTEP2 := Lib.hid (HSTEP.out.trans (if_neg hlt))
          rw [Int.toNat_natCast, show st.length - a = m by omega] at HSTEP2
          clear HSTEP
          have hlen : (st.drop m).length = a := by simp; omega
          have hlent : (st.take m).length = m := by simp; omega
          have HLEN := Lib.hid hlen
          have HLENT := Lib.hid hlent
          have hw1 : IntKind.i64.wrap ((st.length : Int) - (a : Int)) = (m : Int) := by rw [IntWalk.i64_in _ (by omega)]; omega
          have hm0 : (0 : Int) ≤ (m : Int) := by omega
          have hm1 : (m : Int) ≤ (st.length : Int) := by omega
          have hm2 : (m : Int) ≤ (cp : Int) := by omega
          have hml : m ≤ st.length := by omega
          have HM := Lib.hid hm
          obtain ⟨pd, pb, pm, ok, hpt, hno, hyes⟩ := ptV_see (partN k op (st.drop m))
          have hpart : ∀ (X : Option Addr) (c : Nat) (wz : World), Lies KR wz X (st.drop m) → Calls Try.prog 30 #[.agg #[.int .i64 k, .int .i64 tag, .int .i64 num, .string str, .bool is, .int .i64 code, .int .i64 row, .int .i64 col, .int .i64 t, .int .i64 l, .int .i64 b, .int .i64 r, .int .i64 op, .string name, .int .i64 args], .slice X a c] wz fun e w' => e = .returned (.tuple #[.agg #[.int .i64 pd, .int .i64 pb, .bool pm], .bool ok]) ∧ Below wz.heap.size wz w' := fun X c wz hX => by
            have := part_any k tag num str is code row col t l b r op name args X (st.drop m) c wz hX (by omega) (fun p hp => by have := HG.out.2 p (List.mem_of_mem_drop hp); omega)
            rw [hlen, hpt] at this
            exact this
          have HP := Lib.hid hpart
          have HNO := Lib.hid hno
          have HYES := Lib.hid hyes
          clear hm hlen hlent hpt hno hyes hpart
          go_upto_region 9 with fail
          go_cut [8, 9] (fun s8 s9 wx => ∃ p8, s8 = .pointer (some ⟨p8, 0, none⟩) ∧ s9 = .bool ok ∧ Blk wx p8 55 #[.int .i64 pd, .int .i64 pb, .bool pm] ∧ Below w3.heap.size w3 wx)
          case first =>
            have hLN := hA.below hW
            obtain ⟨S, hSS⟩ : ∃ S : World → Prop, S = fun w' => Lies KN w' (some ⟨g, off, none⟩) Ns := ⟨_, rfl⟩
            have q0 := fun x => (node_at' (held_of hSS x) HX.out).1
            have q1 := fun x => (node_at' (held_of hSS x) HX.out).2.1
            have q2 := fun x => (node_at' (held_of hSS x) HX.out).2.2.1
            have q3 := fun x => (node_at' (held_of hSS x) HX.out).2.2.2.1
            have q4 := fun x => (node_at' (held_of hSS x) HX.out).2.2.2.2.1
            have q5 := fun x => (node_at' (held_of hSS x) HX.out).2.2.2.2.2.1
            have q6 := fun x => (node_at' (held_of hSS x) HX.out).2.2.2.2.2.2.1
            have q7 := fun x => (node_at' (held_of hSS x) HX.out).2.2.2.2.2.2.2.1
            have q8 := fun x => (node_at' (held_of hSS x) HX.out).2.2.2.2.2.2.2.2.1
            have q9 := fun x => (node_at' (held_of hSS x) HX.out).2.2.2.2.2.2.2.2.2.1
            have q10 := fun x => (node_at' (held_of hSS x) HX.out).2.2.2.2.2.2.2.2.2.2.1
            have q11 := fun x => (node_at' (held_of hSS x) HX.out).2.2.2.2.2.2.2.2.2.2.2.1
            have q12 := fun x => (node_at' (held_of hSS x) HX.out).2.2.2.2.2.2.2.2.2.2.2.2.1
            have q13 := fun x => (node_at' (held_of hSS x) HX.out).2.2.2.2.2.2.2.2.2.2.2.2.2.1
            have q14 := fun x => (node_at' (held_of hSS x) HX.out).2.2.2.2.2.2.2.2.2.2.2.2.2.2
            dsimp only at q0 q1 q2 q3 q4 q5 q6 q7 q8 q9 q10 q11 q12 q13 q14
            have HSS := Lib.hid hSS
            have hBS : ∀ wx : World, Below w3.heap.size w3 wx → S wx := fun wx hb => held_in HSS.out (hLN.below hb)
            have HBS := Lib.hid hBS
            clear hSS hBS hLN
            have hS0 := HBS.out _ (bel_drew (bel_refl w3))
            haveI : Nonempty (Held S) := ⟨⟨_, hS0⟩⟩
            have hsub : st.length - m = a := by have := HM.out; omega
            rcases HAd with rfl | ⟨ga, rfl, hga1, hga2⟩
            · have hX : Lies KR w3 none (st.drop m) := by
                rw [List.drop_eq_nil_of_le (by have := (ol_none hO).1; omega)]
                exact Lies.nil _ _
              refine wp_region_tree (S := S) 17 (.q 0 <| .q 1 <| .q 2 <| .q 3 <| .q 4 <| .q 5 <| .q 6 <| .q 7 <| .q 8 <| .q 9 <| .fork 10 (.q 11 <| .q 12 <| .q 13 <| .a 14 <| .a 15 <| .q 16 <| .done) 14 (.a 10 <| .q 11 <| .q 12 <| .q 13 <| .a 15 <| .q 16 <| .done)) [] (by kernel_rfl) (by kernel_rfl) hS0 ?_
              repeat (refine tree_q (by rfl) (by rfl) (fun K hK => ?_); go_simp; refine hK _ ?_; clear hK K)
              refine tree_f (by rfl) (by rfl) (by rfl) (by rfl) (fun K hK => ?_) (fun K hK => ?_)
              · go_simp
                refine (HP.out _ _ _ (hX.below (bel_drew (bel_refl w3)))).mono ?_
                rintro e w5 ⟨rfl, hb5⟩
                have hbc := bel_call (bel_drew (bel_refl w3)) hb5
                refine hK _ _ (HBS.out _ hbc) ?_
                clear hK K
                repeat (refine tree_q (by rfl) (by rfl) (fun K hK => ?_); go_simp; refine hK _ ?_; clear hK K)
                refine tree_a (by rfl) (by rfl) (fun K hK => ?_)
                go_simp
                refine hK _ _ (HBS.out _ (bel_alloc hbc (.cells #[.int .i64 0, .int .i64 0, .bool false] 55))) ?_
                clear hK K
                refine tree_a (by rfl) (by rfl) (fun K hK => ?_)
                go_simp
                refine hK _ _ (HBS.out _ (bel_alloc hbc (.cells #[.int .i64 pd, .int .i64 pb, .bool pm] 55))) ?_
                clear hK K
                repeat (refine tree_q (by rfl) (by rfl) (fun K hK => ?_); go_simp; refine hK _ ?_; clear hK K)
                refine tree_nil ?_
                have k8 := Blk.new w5 rfl 55 #[.int .i64 pd, .int .i64 pb, .bool pm]
                go_wp2_with fail
                go_meet
                case rel => exact ⟨_, rfl, rfl, k8, bel_alloc hbc _⟩
              · go_simp
                refine hK _ _ (HBS.out _ (bel_drew (bel_alloc (bel_refl w3) (.cells #[.int .i64 0, .int .i64 0, .bool false] 55)))) ?_
                clear hK K
                refine tree_a (by rfl) (by rfl) (fun K hK => ?_)
                go_simp
                refine (HP.out _ _ _ (hX.below (bel_drew (bel_alloc (bel_refl w3) (.cells #[.int .i64 0, .int .i64 0, .bool false] 55))))).mono ?_
                rintro e w5 ⟨rfl, hb5⟩
                have hbc := bel_call (bel_drew (bel_alloc (bel_refl w3) (.cells #[.int .i64 0, .int .i64 0, .bool false] 55))) hb5
                have k8 := (Blk.new w3 rfl 55 #[.int .i64 0, .int .i64 0, .bool false]).drew.below hb5
                have rd8 := k8.rd
                have fz8 := k8.fz
                have lt8 := k8.lt
                refine hK _ _ (HBS.out _ hbc) ?_
                clear hK K
                repeat (refine tree_q (by rfl) (by rfl) (fun K hK => ?_); go_simp; refine hK _ ?_; clear hK K)
                refine tree_a (by rfl) (by rfl) (fun K hK => ?_)
                go_simp
                have hbd := bel_set (bel_set (bel_set hbc (b := w3.heap.size) (o := 0) (Nat.le_refl _) (.int .i64 pd)) (b := w3.heap.size) (o := 1) (Nat.le_refl _) (.int .i64 pb)) (b := w3.heap.size) (o := 2) (Nat.le_refl _) (.bool pm)
                refine hK _ _ (HBS.out _ hbd) ?_
                clear hK K
                repeat (refine tree_q (by rfl) (by rfl) (fun K hK => ?_); go_simp; refine hK _ ?_; clear hK K)
                refine tree_nil ?_
                have k8' := ((k8.put 0 (.int .i64 pd)).put 1 (.int .i64 pb)).put 2 (.bool pm)
                clear rd8 fz8 lt8
                go_wp2_with fail
                go_meet
                case rel => exact ⟨_, rfl, rfl, k8', hbd⟩

            · by_cases hcm : cp = m
              · have hX := HL.cut (a := m) (by omega)
                rw [if_pos hcm] at hX
                have hcmT : (cp = m) = True := eq_true hcm
                have hcmT' : (m = cp) = True := eq_true hcm.symm
                clear hcm
                refine wp_region_tree (S := S) 17 (.q 0 <| .q 1 <| .q 2 <| .q 3 <| .q 4 <| .q 5 <| .q 6 <| .q 7 <| .q 8 <| .q 9 <| .fork 10 (.q 11 <| .q 12 <| .q 13 <| .a 14 <| .a 15 <| .q 16 <| .done) 14 (.a 10 <| .q 11 <| .q 12 <| .q 13 <| .a 15 <| .q 16 <| .done)) [] (by kernel_rfl) (by kernel_rfl) hS0 ?_
                repeat (refine tree_q (by rfl) (by rfl) (fun K hK => ?_); go_simp; refine hK _ ?_; clear hK K)
                refine tree_f (by rfl) (by rfl) (by rfl) (by rfl) (fun K hK => ?_) (fun K hK => ?_)
                · go_simp
                  refine (HP.out _ _ _ (hX.below (bel_drew (bel_refl w3)))).mono ?_
                  rintro e w5 ⟨rfl, hb5⟩
                  have hbc := bel_call (bel_drew (bel_refl w3)) hb5
                  refine hK _ _ (HBS.out _ hbc) ?_
                  clear hK K
                  repeat (refine tree_q (by rfl) (by rfl) (fun K hK => ?_); go_simp; refine hK _ ?_; clear hK K)
                  refine tree_a (by rfl) (by rfl) (fun K hK => ?_)
                  go_simp
                  refine hK _ _ (HBS.out _ (bel_alloc hbc (.cells #[.int .i64 0, .int .i64 0, .bool false] 55))) ?_
                  clear hK K
                  refine tree_a (by rfl) (by rfl) (fun K hK => ?_)
                  go_simp
                  refine hK _ _ (HBS.out _ (bel_alloc hbc (.cells #[.int .i64 pd, .int .i64 pb, .bool pm] 55))) ?_
                  clear hK K
                  repeat (refine tree_q (by rfl) (by rfl) (fun K hK => ?_); go_simp; refine hK _ ?_; clear hK K)
                  refine tree_nil ?_
                  have k8 := Blk.new w5 rfl 55 #[.int .i64 pd, .int .i64 pb, .bool pm]
                  go_wp2_with fail
                  go_meet
                  case rel => exact ⟨_, rfl, rfl, k8, bel_alloc hbc _⟩
                · go_simp
                  refine hK _ _ (HBS.out _ (bel_drew (bel_alloc (bel_refl w3) (.cells #[.int .i64 0, .int .i64 0, .bool false] 55)))) ?_
                  clear hK K
                  refine tree_a (by rfl) (by rfl) (fun K hK => ?_)
                  go_simp
                  refine (HP.out _ _ _ (hX.below (bel_drew (bel_alloc (bel_refl w3) (.cells #[.int .i64 0, .int .i64 0, .bool false] 55))))).mono ?_
                  rintro e w5 ⟨rfl, hb5⟩
                  have hbc := bel_call (bel_drew (bel_alloc (bel_refl w3) (.cells #[.int .i64 0, .int .i64 0, .bool false] 55))) hb5
                  have k8 := (Blk.new w3 rfl 55 #[.int .i64 0, .int .i64 0, .bool false]).drew.below hb5
                  have rd8 := k8.rd
                  have fz8 := k8.fz
                  have lt8 := k8.lt
                  refine hK _ _ (HBS.out _ hbc) ?_
                  clear hK K
                  repeat (refine tree_q (by rfl) (by rfl) (fun K hK => ?_); go_simp; refine hK _ ?_; clear hK K)
                  refine tree_a (by rfl) (by rfl) (fun K hK => ?_)
                  go_simp
                  have hbd := bel_set (bel_set (bel_set hbc (b := w3.heap.size) (o := 0) (Nat.le_refl _) (.int .i64 pd)) (b := w3.heap.size) (o := 1) (Nat.le_refl _) (.int .i64 pb)) (b := w3.heap.size) (o := 2) (Nat.le_refl _) (.bool pm)
                  refine hK _ _ (HBS.out _ hbd) ?_
                  clear hK K
                  repeat (refine tree_q (by rfl) (by rfl) (fun K hK => ?_); go_simp; refine hK _ ?_; clear hK K)
                  refine tree_nil ?_
                  have k8' := ((k8.put 0 (.int .i64 pd)).put 1 (.int .i64 pb)).put 2 (.bool pm)
                  clear rd8 fz8 lt8
                  go_wp2_with fail
                  go_meet
                  case rel => exact ⟨_, rfl, rfl, k8', hbd⟩

              · have hX := HL.cut (a := m) (by omega)
                rw [if_neg hcm] at hX
                have hX' : Lies KR w3 (some ⟨ga, m * 3, none⟩) (st.drop m) := hX
                clear hX
                refine wp_region_tree (S := S) 17 (.q 0 <| .q 1 <| .q 2 <| .q 3 <| .q 4 <| .q 5 <| .q 6 <| .q 7 <| .q 8 <| .q 9 <| .fork 10 (.q 11 <| .q 12 <| .q 13 <| .a 14 <| .a 15 <| .q 16 <| .done) 14 (.a 10 <| .q 11 <| .q 12 <| .q 13 <| .a 15 <| .q 16 <| .done)) [] (by kernel_rfl) (by kernel_rfl) hS0 ?_
                repeat (refine tree_q (by rfl) (by rfl) (fun K hK => ?_); go_simp; refine hK _ ?_; clear hK K)
                refine tree_f (by rfl) (by rfl) (by rfl) (by rfl) (fun K hK => ?_) (fun K hK => ?_)
                · go_simp
                  refine (HP.out _ _ _ (hX'.below (bel_drew (bel_refl w3)))).mono ?_
                  rintro e w5 ⟨rfl, hb5⟩
                  have hbc := bel_call (bel_drew (bel_refl w3)) hb5
                  refine hK _ _ (HBS.out _ hbc) ?_
                  clear hK K
                  repeat (refine tree_q (by rfl) (by rfl) (fun K hK => ?_); go_simp; refine hK _ ?_; clear hK K)
                  refine tree_a (by rfl) (by rfl) (fun K hK => ?_)
                  go_simp
                  refine hK _ _ (HBS.out _ (bel_alloc hbc (.cells #[.int .i64 0, .int .i64 0, .bool false] 55))) ?_
                  clear hK K
                  refine tree_a (by rfl) (by rfl) (fun K hK => ?_)
                  go_simp
                  refine hK _ _ (HBS.out _ (bel_alloc hbc (.cells #[.int .i64 pd, .int .i64 pb, .bool pm] 55))) ?_
                  clear hK K
                  repeat (refine tree_q (by rfl) (by rfl) (fun K hK => ?_); go_simp; refine hK _ ?_; clear hK K)
                  refine tree_nil ?_
                  have k8 := Blk.new w5 rfl 55 #[.int .i64 pd, .int .i64 pb, .bool pm]
                  go_wp2_with fail
                  go_meet
                  case rel => exact ⟨_, rfl, rfl, k8, bel_alloc hbc _⟩
                · go_simp
                  refine hK _ _ (HBS.out _ (bel_drew (bel_alloc (bel_refl w3) (.cells #[.int .i64 0, .int .i64 0, .bool false] 55)))) ?_
                  clear hK K
                  refine tree_a (by rfl) (by rfl) (fun K hK => ?_)
                  go_simp
                  refine (HP.out _ _ _ (hX'.below (bel_drew (bel_alloc (bel_refl w3) (.cells #[.int .i64 0, .int .i64 0, .bool false] 55))))).mono ?_
                  rintro e w5 ⟨rfl, hb5⟩
                  have hbc := bel_call (bel_drew (bel_alloc (bel_refl w3) (.cells #[.int .i64 0, .int .i64 0, .bool false] 55))) hb5
                  have k8 := (Blk.new w3 rfl 55 #[.int .i64 0, .int .i64 0, .bool false]).drew.below hb5
                  have rd8 := k8.rd
                  have fz8 := k8.fz
                  have lt8 := k8.lt
                  refine hK _ _ (HBS.out _ hbc) ?_
                  clear hK K
                  repeat (refine tree_q (by rfl) (by rfl) (fun K hK => ?_); go_simp; refine hK _ ?_; clear hK K)
                  refine tree_a (by rfl) (by rfl) (fun K hK => ?_)
                  go_simp
                  have hbd := bel_set (bel_set (bel_set hbc (b := w3.heap.size) (o := 0) (Nat.le_refl _) (.int .i64 pd)) (b := w3.heap.size) (o := 1) (Nat.le_refl _) (.int .i64 pb)) (b := w3.heap.size) (o := 2) (Nat.le_refl _) (.bool pm)
                  refine hK _ _ (HBS.out _ hbd) ?_
                  clear hK K
                  repeat (refine tree_q (by rfl) (by rfl) (fun K hK => ?_); go_simp; refine hK _ ?_; clear hK K)
                  refine tree_nil ?_
                  have k8' := ((k8.put 0 (.int .i64 pd)).put 1 (.int .i64 pb)).put 2 (.bool pm)
                  clear rd8 fz8 lt8
                  go_wp2_with fail
                  go_meet
                  case rel => exact ⟨_, rfl, rfl, k8', hbd⟩

          case rest =>
            obtain ⟨p8, rfl, rfl, k8, hb4⟩ := hcut
            replace hO := hO.below hb4
            replace hW := bel_call hW hb4
            replace HL := HL.below hb4
            clear hb4
            cases ok with
            | false =>
              have HF : Hid (runN Ns [] = none) := runN_none (HT.out.trans (HSTEP2.out.trans (by rw [HNO.out rfl]; rfl)))
              go_wp2_with fail
              exact bodyPost_ret (v := .tuple #[.slice none 0 0, .bool false]) (by simp [results, Try.results23, go_sem]) rfl ⟨.inr ⟨HF.out, rfl⟩, hW⟩
            | true =>
              have hpt := HYES.out rfl
              have hsm := part_small hpt (fun q hq => HG.out.2 q (List.mem_of_mem_drop hq))
              have HST : Hid (runN (Ns.take (i + 1)) [] = some (st.take m ++ [⟨pd, pb, pm⟩])) := HT.out.trans (HSTEP2.out.trans (by rw [hpt]; rfl))
              have HSM := Lib.hid hsm
              clear hpt hsm
              have hbw := hW.size
              go_wp2_with (first
                | (at_builtin; (refine wp_ol_append info_kr rfl Try.underlying51 rfl (.tmp 51) (.tmp 57) rfl rfl (OL.nil _ w.heap.size) (M := st.take m) rfl HLENT.out (HL.take m) (by unfold maxLen; simp; omega) (by simp [KR]; omega) hbw ?_); intro v7 w7 hO7 hg7; have hB7 := bel_grown hW hg7 (fun z hz => by cases hz); have hk8 := (k8.grownX hg7 (by intro e; cases e)); have hrd8 := hk8.rd; have hlt8 := hk8.lt; rw [List.nil_append] at hO7)
                | (at_builtin; (refine wp_ol_append info_kr rfl Try.underlying51 rfl (.tmp 59) (.tmp 61) rfl rfl (OL.alloc hO7 (.cells #[.int .i64 pd, .int .i64 pb, .bool pm] 55)) (M := [⟨pd, pb, pm⟩]) (c := 1) rfl rfl (Lies.blk (Blk.new w7 rfl 55 #[.int .i64 pd, .int .i64 pb, .bool pm]) rfl) (by rw [HLENT.out]; unfold maxLen; omega) (by show (_ + 1) * 24 ≤ _; rw [HLENT.out]; omega) (by have := hB7.size; simp; omega) ?_); intro v9 w9 hO9 hg9; have hB9 := bel_grown (bel_alloc hB7 (.cells #[.int .i64 pd, .int .i64 pb, .bool pm] 55)) hg9 (fun z hz => (hO7.lt z hz).1)))
              go_roundw
              case rel => exact ⟨i + 1, _, by omega, by go_num, hO9, good_put HG.out hml HSM.out.1 HSM.out.2, HST.out, hB9⟩
              case measure => simp [intOf]; omega
    · obtain rfl : i = Ns.length := by omega
      have HF := Lib.hid HR.out
      rw [List.take_length] at HF
      go_wp2_with fail
      exact bodyPost_ret (v := .tuple #[.slice Ad st.length cp, .bool true]) (by simp [results, Try.results23, go_sem]) rfl ⟨.inl ⟨st, _, HF.out, HG.out, rfl, hO⟩, hW⟩
end Go.Proofs.Ytifmfkofadhieaa

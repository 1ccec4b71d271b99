/-
  Formulas: contract of refs.Of. Conditions: the numbers are 64-bit integers.
-/
import Derived.Test.YtifmfkofadhieaaRRef
namespace Go.Proofs.Ytifmfkofadhieaa
open Go.ChangeShapes Go.WideShapes Go.ChangeAt Go.RowKit Go.Deep

theorem zero_int (w : World) : (zeroValue 3).run Try.prog w = .ok (.int .i64 0) w := by kernel_rfl
theorem ol_ne_map {α : Type} {K : Knd α} {w : World} {B : Nat} {v : Value} {L : List α} (h : OL K w B v L) {P : Program} {k : TypeId} {R : Value → Option (DataW Unit × List MemPlace)} {b n : Nat} {D : DataW Unit} (hm : w.ownsMap P k R b n D) {g : Nat} (hg : v.ownBlock = some g) : g ≠ b := by
  rintro rfl
  obtain ⟨cur, e1⟩ := h.type g hg
  obtain ⟨es, clock, e2, _⟩ := hm
  rw [e1] at e2
  injection e2 with e2
  cases e2
theorem has_grow {D : DataW Unit} {out : List Rf} {x : Rf} {kl : Lit} {d : DataW Unit} (hD : Maps.IsMap D) (hK : ∀ r l, keyOf Try.prog 37 (refV r) = some l → (Maps.has D l = true ↔ r ∈ out)) (hx : keyOf Try.prog 37 (refV x) = some kl) :
    ∀ r l, keyOf Try.prog 37 (refV r) = some l → (Maps.has (D.put kl d) l = true ↔ r ∈ out ++ [x]) := by
  intro r l hl
  by_cases e : l = kl
  · subst e
    have : r = x := refV_inj (law_ref.inj hl hx)
    subst this
    rw [Maps.has_put_same hD (law_ref.key hx)]
    simp
  · rw [Maps.has_put_other e, hK r l hl]
    have : r ≠ x := by
      rintro rfl
      rw [hl] at hx
      injection hx with hx
      exact e hx
    simp [this]
theorem may_cell {tag num : Int} {str : ByteArray} {is : Bool} {code row col t l b r op : Int} {name : ByteArray} {args : Int} (h : mayNd ⟨2, tag, num, str, is, code, row, col, t, l, b, r, op, name, args⟩ = true) : 1 ≤ row ∧ row ≤ 4096 ∧ 1 ≤ col ∧ col ≤ 256 := by
  have h' : mayN 2 tag num str is code row col t l b r op name args = true := h
  rw [mayN_2] at h'
  simp only [Bool.and_eq_true] at h'
  exact mayB_true h'.1
theorem may_rect {tag num : Int} {str : ByteArray} {is : Bool} {code row col t l b r op : Int} {name : ByteArray} {args : Int} (h : mayNd ⟨3, tag, num, str, is, code, row, col, t, l, b, r, op, name, args⟩ = true) : rngF ⟨true, t, l, b, r⟩ := by
  have h' : mayN 3 tag num str is code row col t l b r op name args = true := h
  rw [mayN_3] at h'
  simp only [Bool.and_eq_true] at h'
  have h1 := h'.1
  simp [mayR, mayB] at h1
  refine ⟨⟨?_, ?_⟩, ⟨?_, ?_⟩, ⟨?_, ?_⟩, ⟨?_, ?_⟩⟩ <;> dsimp only <;> omega
/-- What Of answers. -/
def OfIs (Ns : List Nd) (w : World) (e : Ending) (w' : World) : Prop := ∃ v, e = .returned v ∧ OL KF w' w.heap.size v (ofN Ns) ∧ Below w.heap.size w w'

set_option maxHeartbeats 6400000 in
set_option maxRecDepth 100000 in
theorem pof_any (Ns : List Nd) (A : Option Addr) (cap : Nat) (w : World) (hA : Lies KN w A Ns) (hN : ∀ n, n ∈ Ns → rngN n) :
    Calls Try.prog 18 #[.agg #[.slice A Ns.length cap]] w (OfIs Ns w) := by
  have hck := fun W hW => pcheck_any Ns A cap W hW hN
  obtain ⟨ck, hc⟩ : ∃ ck, ck = chkI (depthN Ns) := ⟨_, rfl⟩
  rw [← hc] at hck
  have HC := Lib.hid hc
  rcases (show ck = 0 ∨ ck = 20 from hc ▸ chk_01 _) with rfl | rfl
  case inr =>
    have HO : Hid (ofN Ns = []) := if_neg (by rw [← hc]; decide)
    clear hc hN
    go_enter Try.func18, Try.ntmps18
    go_wp2_with fail
    refine (hck _ (hA.below (bel_alloc (bel_refl w) _))).mono ?_
    rintro e w1 ⟨rfl, hb⟩
    have hw := bel_call (bel_alloc (bel_refl w) _) hb
    clear hb
    go_wp2_with fail
    go_ret
    exact ⟨_, rfl, by rw [HO.out]; exact OL.nil _ _, hw⟩
  obtain ⟨d, hd, hd32⟩ := chk_ok hc.symm
  obtain ⟨p, hr, _, _, hl1, hl2⟩ := run_of_depth hd
  have HMAY := Lib.hid (may_of_run hr)
  have HO : Hid (ofN Ns = ofL Ns) := if_pos hc.symm
  clear hc hN hd hr
  go_enter Try.func18, Try.ntmps18
  go_wp2_with fail
  refine (hck _ (hA.below (bel_alloc (bel_refl w) _))).mono ?_
  rintro e w1 ⟨rfl, hb⟩
  have k1 := (Blk.new w rfl 24 #[.slice A Ns.length cap]).below hb
  have hw1 := bel_call (bel_alloc (bel_refl w) _) hb
  clear hb hck
  have rd1 := (k1.alloc (.map #[] 0)).rd
  have rd1' := k1.rd
  have lt1 := k1.lt
  have hmk := fun w => run_makeMap (P := Try.prog) 56 w
  go_wp2_with fail
  clear hmk
  have hw' := bel_alloc hw1 (.map #[] 0)
  have hown' := World.ownsMap_made (H := Unit) w1 Try.prog 37 (plainElem Try.prog 3)
  have hmb0 := hw1.size
  obtain ⟨mb, hmb⟩ : ∃ mb, mb = w1.heap.size := ⟨_, rfl⟩
  rw [← hmb] at hown' hmb0 ⊢
  clear hmb
  go_loopw [4, 17] (fun s4 s17 wr => ∃ (i n : Nat) (D : DataW Unit), i ≤ Ns.length ∧ s17 = .int .i64 i ∧ OL KF wr w.heap.size s4 (ofL (Ns.take i)) ∧ wr.ownsMap Try.prog 37 (plainElem Try.prog 3) mb n D ∧ n ≤ i ∧
      Hid (∀ r kl, keyOf Try.prog 37 (refV r) = some kl → (Maps.has D kl = true ↔ r ∈ ofL (Ns.take i))) ∧ Below w.heap.size w wr) (fun _ s17 _ => Ns.length - (intOf s17).toNat)
  case atStart => exact ⟨0, 0, .map [], Nat.zero_le _, rfl, OL.nil _ _, hown', Nat.le_refl _, (show ∀ r kl, keyOf Try.prog 37 (refV r) = some kl → (Maps.has (.map [] : DataW Unit) kl = true ↔ r ∈ ofL (Ns.take 0)) from fun r kl _ => by simp [Maps.has_eq, ofL]), hw'⟩
  case round =>
    obtain ⟨i, n, D, hi, rfl, hO, hown, hn, HK, hW⟩ := hrel
    clear hown' hw' rd1 rd1' lt1 k1
    have hlt := hown.lt
    have hlo := ofL_len Ns i
    by_cases hil : i < Ns.length
    · obtain ⟨x, hx⟩ : ∃ x, Ns[i]? = some x := ⟨_, List.getElem?_eq_getElem hil⟩
      obtain ⟨g, off, rfl, hg, _⟩ := (hA.below hW) i x hx
      have hmay := HMAY.out x (List.mem_of_getElem? hx)
      have HOF := Lib.hid (ofL_take hx)
      have HX := Lib.hid hx
      clear hx
      obtain ⟨out, hout⟩ : ∃ out, out = ofL (Ns.take i) := ⟨_, rfl⟩
      rw [← hout] at hO HK HOF hlo
      clear hout
      have i0 : (0 : Int) ≤ (i : Int) := by omega
      have i1 : (i : Int) < (Ns.length : Int) := by omega
      obtain ⟨k, tag, num, str, is, code, row, col, t, l, b, r, op, name, args⟩ := x
      obtain ⟨e0, e1, e2, e3, e4, e5, e6, e7, e8, e9, e10, e11, e12, e13, e14⟩ := node_at' (hA.below hW) HX.out
      dsimp only at e0 e1 e2 e3 e4 e5 e6 e7 e8 e9 e10 e11 e12 e13 e14
      by_cases h2 : k = 2
      · subst h2
        have HRF : Hid (refN ⟨2, tag, num, str, is, code, row, col, t, l, b, r, op, name, args⟩ = some ⟨false, row, col, row, col⟩) := rfN_2 tag num str is code row col t l b r op name args
        have hrf : rngF ⟨false, row, col, row, col⟩ := by
          have h := may_cell hmay
          exact ⟨⟨by show _ ≤ row; omega, by show row ≤ _; omega⟩, ⟨by show _ ≤ col; omega, by show col ≤ _; omega⟩, ⟨by show _ ≤ row; omega, by show row ≤ _; omega⟩, ⟨by show _ ≤ col; omega, by show col ≤ _; omega⟩⟩
        clear hmay
        obtain ⟨kl, hkl⟩ := key_ex ⟨false, row, col, row, col⟩ hrf
        have hin := HK.out ⟨false, row, col, row, col⟩ kl hkl
        have k7 := Blk.new (wr.alloc (.cells #[.int .i64 2, .int .i64 tag, .int .i64 num, .string str, .bool is, .int .i64 code, .int .i64 row, .int .i64 col, .int .i64 t, .int .i64 l, .int .i64 b, .int .i64 r, .int .i64 op, .string name, .int .i64 args] 48)) (g := wr.heap.size + 1) (by simp) 37 #[.bool false, .int .i64 row, .int .i64 col, .int .i64 row, .int .i64 col]
        have hown7 := (hown.alloc (.cells #[.int .i64 2, .int .i64 tag, .int .i64 num, .string str, .bool is, .int .i64 code, .int .i64 row, .int .i64 col, .int .i64 t, .int .i64 l, .int .i64 b, .int .i64 r, .int .i64 op, .string name, .int .i64 args] 48)).alloc (.cells #[.bool false, .int .i64 row, .int .i64 col, .int .i64 row, .int .i64 col] 37)
        have hO7 := (hO.alloc (.cells #[.int .i64 2, .int .i64 tag, .int .i64 num, .string str, .bool is, .int .i64 code, .int .i64 row, .int .i64 col, .int .i64 t, .int .i64 l, .int .i64 b, .int .i64 r, .int .i64 op, .string name, .int .i64 args] 48)).alloc (.cells #[.bool false, .int .i64 row, .int .i64 col, .int .i64 row, .int .i64 col] 37)
        have hW7 := bel_alloc (bel_alloc hW (.cells #[.int .i64 2, .int .i64 tag, .int .i64 num, .string str, .bool is, .int .i64 code, .int .i64 row, .int .i64 col, .int .i64 t, .int .i64 l, .int .i64 b, .int .i64 r, .int .i64 op, .string name, .int .i64 args] 48)) (.cells #[.bool false, .int .i64 row, .int .i64 col, .int .i64 row, .int .i64 col] 37)
        have hkne : some (wr.heap.size + 1) ≠ some mb := by intro h; injection h with h; omega
        have hmbl : ∀ z, some mb = some z → w.heap.size ≤ z := by intro z h; injection h with h; omega
        have hone : ∀ g, Value.ownBlock u4 = some g → some mb ≠ some g := by intro g h h'; injection h' with h'; exact ol_ne_map hO hown h h'.symm
        cases hh : Maps.has D kl with
        | true =>
          have HST : Hid (ofL (Ns.take (i + 1)) = out) := HOF.out.trans (addR_hit HRF.out (hin.1 hh))
          clear hin
          go_wp2_with (at_lookup; refine wpList_lookup_own_ok_int _ rfl _ _ _ rfl 37 3 .i64 law_ref Try.underlying56 Try.underlying3 (zero_int _) mb n D rfl hown7 _ kl rfl hkl ?_; intro c hat hwc)
          go_roundw
          case rel => exact ⟨i + 1, n, D, by omega, by go_num, by rw [HST.out]; exact hO7, hown7, by omega, by rw [HST.out]; exact HK, hW7⟩
          case measure => simp [intOf]; omega
        | false =>
          have hnin : ⟨false, row, col, row, col⟩ ∉ out := fun h => by rw [hin.2 h] at hh; cases hh
          have HST : Hid (ofL (Ns.take (i + 1)) = out ++ [⟨false, row, col, row, col⟩]) := HOF.out.trans (addR_new HRF.out hnin)
          have HNEW := Lib.hid (has_grow (x := ⟨false, row, col, row, col⟩) (d := .lit (.int .i64 (out.length : Int))) hown.isMap HK.out hkl)
          clear hin hnin
          obtain ⟨Aq, cq, rfl, hq1, hq2, _, _⟩ := hO.see
          go_wp2_with (first | (at_lookup; refine wpList_lookup_own_ok_int _ rfl _ _ _ rfl 37 3 .i64 law_ref Try.underlying56 Try.underlying3 (zero_int _) mb n D rfl hown7 _ kl rfl hkl ?_; intro c hat hwc) | (at_mapUpdate; go_must (refine wpList_mapUpdate_own _ rfl _ _ _ 56 rfl 37 3 law_ref Try.underlying56 _ mb n D rfl hown7 (by unfold maxLen; omega) _ _ kl rfl rfl hkl (.lit (.int .i64 (out.length : Int))) [] (plainElem_int Try.underlying3 (wf_i64 (by omega))) ?_; intro w8 hown8 hg8; have hk8 := (k7.grownX hg8 hkne).rd; have hl8 := (k7.grownX hg8 hkne).lt; have hB8 := bel_grown hW7 hg8 hmbl; have hO8 := hO7.grown hg8 hone)) | (at_builtin; refine wp_ol_append info_kf rfl Try.underlying32 rfl _ _ rfl rfl (OL.alloc hO8 (.cells #[.bool false, .int .i64 row, .int .i64 col, .int .i64 row, .int .i64 col] 37)) (M := [⟨false, row, col, row, col⟩]) (c := 1) rfl rfl (Lies.blk (Blk.new w8 rfl 37 #[.bool false, .int .i64 row, .int .i64 col, .int .i64 row, .int .i64 col]) rfl) (by unfold maxLen; omega) (by show (_ + 1) * 40 ≤ _; omega) (size1 hB8.size _) ?_; intro v9 w9 hO9 hg9))
          have hown9 := (hown8.alloc (.cells #[.bool false, .int .i64 row, .int .i64 col, .int .i64 row, .int .i64 col] 37)).kept hg9 (by intro h; exact ol_ne_map hO8 hown8 h.symm rfl)
          have hB9 := bel_grown (bel_alloc hB8 (.cells #[.bool false, .int .i64 row, .int .i64 col, .int .i64 row, .int .i64 col] 37)) hg9 (fun z hz => (hO8.lt z hz).1)
          go_roundw
          case rel => exact ⟨i + 1, n + 1, _, by omega, by go_num, by rw [HST.out]; exact hO9, hown9, by omega, by rw [HST.out]; exact HNEW, hB9⟩
          case measure => simp [intOf]; omega

      by_cases h3 : k = 3
      · subst h3
        clear h2
        have HRF : Hid (refN ⟨3, tag, num, str, is, code, row, col, t, l, b, r, op, name, args⟩ = some ⟨true, t, l, b, r⟩) := rfN_3 tag num str is code row col t l b r op name args
        have hrf : rngF ⟨true, t, l, b, r⟩ := may_rect hmay
        clear hmay
        obtain ⟨kl, hkl⟩ := key_ex ⟨true, t, l, b, r⟩ hrf
        have hin := HK.out ⟨true, t, l, b, r⟩ kl hkl
        have k7 := Blk.new (wr.alloc (.cells #[.int .i64 3, .int .i64 tag, .int .i64 num, .string str, .bool is, .int .i64 code, .int .i64 row, .int .i64 col, .int .i64 t, .int .i64 l, .int .i64 b, .int .i64 r, .int .i64 op, .string name, .int .i64 args] 48)) (g := wr.heap.size + 1) (by simp) 37 #[.bool true, .int .i64 t, .int .i64 l, .int .i64 b, .int .i64 r]
        have hown7 := (hown.alloc (.cells #[.int .i64 3, .int .i64 tag, .int .i64 num, .string str, .bool is, .int .i64 code, .int .i64 row, .int .i64 col, .int .i64 t, .int .i64 l, .int .i64 b, .int .i64 r, .int .i64 op, .string name, .int .i64 args] 48)).alloc (.cells #[.bool true, .int .i64 t, .int .i64 l, .int .i64 b, .int .i64 r] 37)
        have hO7 := (hO.alloc (.cells #[.int .i64 3, .int .i64 tag, .int .i64 num, .string str, .bool is, .int .i64 code, .int .i64 row, .int .i64 col, .int .i64 t, .int .i64 l, .int .i64 b, .int .i64 r, .int .i64 op, .string name, .int .i64 args] 48)).alloc (.cells #[.bool true, .int .i64 t, .int .i64 l, .int .i64 b, .int .i64 r] 37)
        have hW7 := bel_alloc (bel_alloc hW (.cells #[.int .i64 3, .int .i64 tag, .int .i64 num, .string str, .bool is, .int .i64 code, .int .i64 row, .int .i64 col, .int .i64 t, .int .i64 l, .int .i64 b, .int .i64 r, .int .i64 op, .string name, .int .i64 args] 48)) (.cells #[.bool true, .int .i64 t, .int .i64 l, .int .i64 b, .int .i64 r] 37)
        have hkne : some (wr.heap.size + 1) ≠ some mb := by intro h; injection h with h; omega
        have hmbl : ∀ z, some mb = some z → w.heap.size ≤ z := by intro z h; injection h with h; omega
        have hone : ∀ g, Value.ownBlock u4 = some g → some mb ≠ some g := by intro g h h'; injection h' with h'; exact ol_ne_map hO hown h h'.symm
        cases hh : Maps.has D kl with
        | true =>
          have HST : Hid (ofL (Ns.take (i + 1)) = out) := HOF.out.trans (addR_hit HRF.out (hin.1 hh))
          clear hin
          go_wp2_with (at_lookup; refine wpList_lookup_own_ok_int _ rfl _ _ _ rfl 37 3 .i64 law_ref Try.underlying56 Try.underlying3 (zero_int _) mb n D rfl hown7 _ kl rfl hkl ?_; intro c hat hwc)
          go_roundw
          case rel => exact ⟨i + 1, n, D, by omega, by go_num, by rw [HST.out]; exact hO7, hown7, by omega, by rw [HST.out]; exact HK, hW7⟩
          case measure => simp [intOf]; omega
        | false =>
          have hnin : ⟨true, t, l, b, r⟩ ∉ out := fun h => by rw [hin.2 h] at hh; cases hh
          have HST : Hid (ofL (Ns.take (i + 1)) = out ++ [⟨true, t, l, b, r⟩]) := HOF.out.trans (addR_new HRF.out hnin)
          have HNEW := Lib.hid (has_grow (x := ⟨true, t, l, b, r⟩) (d := .lit (.int .i64 (out.length : Int))) hown.isMap HK.out hkl)
          clear hin hnin
          obtain ⟨Aq, cq, rfl, hq1, hq2, _, _⟩ := hO.see
          go_wp2_with (first | (at_lookup; refine wpList_lookup_own_ok_int _ rfl _ _ _ rfl 37 3 .i64 law_ref Try.underlying56 Try.underlying3 (zero_int _) mb n D rfl hown7 _ kl rfl hkl ?_; intro c hat hwc) | (at_mapUpdate; go_must (refine wpList_mapUpdate_own _ rfl _ _ _ 56 rfl 37 3 law_ref Try.underlying56 _ mb n D rfl hown7 (by unfold maxLen; omega) _ _ kl rfl rfl hkl (.lit (.int .i64 (out.length : Int))) [] (plainElem_int Try.underlying3 (wf_i64 (by omega))) ?_; intro w8 hown8 hg8; have hk8 := (k7.grownX hg8 hkne).rd; have hl8 := (k7.grownX hg8 hkne).lt; have hB8 := bel_grown hW7 hg8 hmbl; have hO8 := hO7.grown hg8 hone)) | (at_builtin; refine wp_ol_append info_kf rfl Try.underlying32 rfl _ _ rfl rfl (OL.alloc hO8 (.cells #[.bool true, .int .i64 t, .int .i64 l, .int .i64 b, .int .i64 r] 37)) (M := [⟨true, t, l, b, r⟩]) (c := 1) rfl rfl (Lies.blk (Blk.new w8 rfl 37 #[.bool true, .int .i64 t, .int .i64 l, .int .i64 b, .int .i64 r]) rfl) (by unfold maxLen; omega) (by show (_ + 1) * 40 ≤ _; omega) (size1 hB8.size _) ?_; intro v9 w9 hO9 hg9))
          have hown9 := (hown8.alloc (.cells #[.bool true, .int .i64 t, .int .i64 l, .int .i64 b, .int .i64 r] 37)).kept hg9 (by intro h; exact ol_ne_map hO8 hown8 h.symm rfl)
          have hB9 := bel_grown (bel_alloc hB8 (.cells #[.bool true, .int .i64 t, .int .i64 l, .int .i64 b, .int .i64 r] 37)) hg9 (fun z hz => (hO8.lt z hz).1)
          go_roundw
          case rel => exact ⟨i + 1, n + 1, _, by omega, by go_num, by rw [HST.out]; exact hO9, hown9, by omega, by rw [HST.out]; exact HNEW, hB9⟩
          case measure => simp [intOf]; omega

      · have HST : Hid (ofL (Ns.take (i + 1)) = out) := HOF.out.trans (addR_none (rfN_no h2 h3))
        have b2 : (k == 2) = false := by rw [beq_eq_false_iff_ne]; exact h2
        have b3 : (k == 3) = false := by rw [beq_eq_false_iff_ne]; exact h3
        clear h2 h3 hmay
        go_wp2_with fail
        go_roundw
        case rel => exact ⟨i + 1, n, D, by omega, by go_num, by rw [HST.out]; exact (hO.alloc _).alloc _, (hown.alloc _).alloc _, by omega, by rw [HST.out]; exact HK, bel_alloc (bel_alloc hW _) _⟩
        case measure => simp [intOf]; omega
    · obtain rfl : i = Ns.length := by omega
      rw [List.take_length] at hO
      go_wp2_with fail
      go_ret
      exact ⟨_, rfl, by rw [HO.out]; exact hO, hW⟩
end Go.Proofs.Ytifmfkofadhieaa

/-
  Deps: contract of Edges. Conditions: those of each theorem.
-/
import Derived.Test.YtpgnebhlnkoajaaDDir
namespace Go.Proofs.Ytpgnebhlnkoajaa
open Go.ChangeShapes Go.WideShapes Go.ChangeAt Go.RowKit Go.Deep
attribute [local go_sem] Cls

/-- What Edges, Back answer. -/
def EdgIs (w : World) (Es : List Ed) (e : Ending) (w' : World) : Prop := ∃ v, e = .returned v ∧ OW KD w' w.heap.size v Es ∧ Below w.heap.size w w'
theorem mkE_inj {c : Cl} {x y : Rf} (h : mkE c x = mkE c y) : x = y := by
  obtain ⟨m, t, l, b, r⟩ := x
  obtain ⟨m', t', l', b', r'⟩ := y
  simp [mkE] at h
  obtain ⟨rfl, rfl, rfl, rfl, rfl⟩ := h
  rfl
theorem mkE_of (e : Ed) : mkE (eCl e) (eRf e) = e := rfl
theorem sub_len {out Es : List Ed} (hn : out.Nodup) (h : ∀ e, e ∈ out → e ∈ Es) : out.length ≤ Es.length :=
  pick_le (fun x => some x) (fun p => p) out Es hn (fun p hp => ⟨p, h p hp, rfl⟩)
set_option maxHeartbeats 6400000 in
set_option maxRecDepth 100000 in
theorem dedges_any (db fm tm bb n : Nat) (O : Nat → Prop) (Ps : List Pr) (f t : Cl → Option Value) (E : Cl → List Rf) (Wh : Cl → List Cl) (Es : List Ed) (w : World)
    (h : DMem w db fm tm bb n O Ps f t E Wh) (hnd : ∀ c, (E c).Nodup) (hrc : ∀ c r, r ∈ E c → rngC c) (hs : SrtE Es) (hm : ∀ e, e ∈ Es ↔ eRf e ∈ E (eCl e)) (hEl : Es.length ≤ 1099511627776) :
    Calls Try.prog 18 #[.pointer (some ⟨db, 0, none⟩)] w (EdgIs w Es) := by
  obtain ⟨D, hown, hk1, hk2⟩ := h.frm
  have HK1 := Lib.hid hk1
  have HK2 := Lib.hid hk2
  have HM := Lib.hid hm
  have HS := Lib.hid hs
  have HND := Lib.hid hnd
  have HRC := Lib.hid hrc
  have HLST := Lib.hid h.lst
  have rdt := h.top.rd
  have ltt := h.top.lt
  have hfm := h.frm.lt
  clear hk1 hk2 hm hs hnd hrc
  go_enter Try.func18, Try.ntmps18
  go_wp2_with (at_range; refine wpList_range_own _ rfl _ _ rfl 33 30 law_cell Try.underlying55 heldE fm n D rfl hown ?_; intro w0 hrg0 hg0 hs0)
  go_frame
  clear rdt ltt
  have hB0 := below_of_grown' hg0
  go_loopg [3] (Maps.size D) (fun gk s3 wr => ∃ (out : List Ed) (left : Lit → Bool) (cnt : Nat), cnt ≤ gk ∧ wr.ranges Try.prog 33 heldE fm w.heap.size n D left cnt ∧ OL KD wr (w.heap.size + 1) s3 out ∧ out.Nodup ∧ Hid (∀ e, e ∈ out → e ∈ Es) ∧ Hid (∀ e l, keyOf Try.prog 33 (cellV (eCl e)) = some l → left l = true → e ∉ out) ∧
      Hid (∀ e l, keyOf Try.prog 33 (cellV (eCl e)) = some l → e ∈ Es → left l = false → e ∈ out) ∧ Hid (∀ l, left l = true → Maps.has D l = true) ∧ Below w.heap.size w wr)
  case atStart => exact ⟨[], _, _, Nat.le_refl _, hrg0, OL.nil _ _, List.nodup_nil, Lib.hid (fun e he => by cases he), Lib.hid (fun e l _ _ he => by cases he), Lib.hid (fun e l hl he h0 => by
    have h1 := MFun.has HK1.out hl
    rw [h0] at h1
    have h2 := (HM.out e).1 he
    cases hf : f (eCl e) with
    | none => rw [h.fno _ hf] at h2; cases h2
    | some v => rw [hf] at h1; cases h1), Lib.hid (fun l hl => hl), hB0⟩
  case round =>
    obtain ⟨out, left, cnt, hcg, hrg, hO, hnd, HIN, HNL, HLF, HSUB, hW⟩ := hrel
    clear hrg0 hg0 hs0 hB0
    go_upto_region 4 with (at_next; refine wp_mfun_next rfl _ rfl law_cell w.heap.size cnt D left HK1.out HK2.out HSUB.out rfl hrg (fun hc0 hl0 => ?_) (fun x v kl w1 cnt1 hrx hkx hlk hfx hrg1 hlt1 hg1 hsz1 hen => ?_))
    · clear hrg
      have HL0 := Lib.hid hl0
      clear hl0 hc0
      have hol := sub_len hnd HIN.out
      go_wp2_with fail
      refine (sorted_any (OW.of_ol hO) hnd (by omega)).mono ?_
      rintro e w5 ⟨rfl, M, hM, hsM, hmM, _, hg5⟩
      have hB5 := bel_grown hW hg5 (fun z hz => by have := (hO.lt z hz).1; omega)
      obtain rfl : M = Es := srte_ext hsM HS.out (fun e => by
        rw [hmM e]
        refine ⟨HIN.out e, fun he => ?_⟩
        obtain ⟨kl, hkl⟩ := key_cell (eCl e) (HRC.out _ _ ((HM.out e).1 he))
        exact HLF.out e kl hkl he (HL0.out kl))
      have hO5 := hM.low (Nat.le_succ _)
      clear hol hM
      go_wp2_with fail
      go_ret
      exact ⟨_, rfl, hO5, hB5⟩
    · obtain ⟨g, cap, rfl, hLx⟩ := HLST.out x v hfx
      obtain ⟨A', c', hv', _, hcm, hLi, _⟩ := hLx.see
      injection hv' with hv' _ hc'
      subst hv' hc'
      have hlen : (E x).length ≤ 9223372036854775807 := h.len_le x
      have hB1 := bel_grown hW hg1 (fun z hz => by injection hz with hz; omega)
      have hO1 := hO.grown hg1 (fun g' hg' e => AP.ne_iter (.inr hO) hrg g' hg' (by injection e with e; exact e.symm))
      have HNO : Hid (∀ e, e ∈ out → eCl e ≠ x) := Lib.hid (fun e he ee => HNL.out e kl (by rw [ee]; exact hkx) hlk he)
      have HKX := Lib.hid hkx
      have hen' : (Instr.entry (.pointer (some ⟨w.heap.size, 0, none⟩))).run Try.prog w1 = .ok (.tuple #[.agg #[.int .i64 x.row, .int .i64 x.col], .slice (some ⟨g, 0, none⟩) (E x).length cap]) w1 := hen
      have HSUB2 : Hid (∀ l, (left l && !l.sameKey kl) = true → Maps.has D l = true) := Lib.hid (fun l hl => HSUB.out l (by rw [Bool.and_eq_true] at hl; exact hl.1))
      have HNL2 : Hid (∀ e l, keyOf Try.prog 33 (cellV (eCl e)) = some l → (left l && !l.sameKey kl) = true → e ∉ out) := Lib.hid (fun e l hl h1 => HNL.out e l hl (by rw [Bool.and_eq_true] at h1; exact h1.1))
      clear hen hrg hW hg1 hO hkx hlk hfx
      go_upto_region 5 with fail
      try rw [← hsz1]
      have kx := Blk.new w1 (g := w1.heap.size) rfl 33 #[.int .i64 x.row, .int .i64 x.col]
      have hO2 := hO1.alloc (.cells #[.int .i64 x.row, .int .i64 x.col] 33)
      have hB2 := bel_alloc hB1 (.cells #[.int .i64 x.row, .int .i64 x.col] 33)
      have hrg2 := hrg1.alloc (.cells #[.int .i64 x.row, .int .i64 x.col] 33)
      generalize hwz : w1.alloc (.cells #[.int .i64 x.row, .int .i64 x.col] 33) = w2 at kx hO2 hB2 hrg2 ⊢
      have hgw : w.heap.size < w1.heap.size := hrg1.lt
      generalize w1.heap.size = gx at kx hgw ⊢
      clear hwz hrg1 hO1 hB1 hsz1 hen'
      go_wp2_with fail
      go_loopg [3, 20] (E x).length (fun g2 s3 s20 wr => ∃ (j : Nat) (o2 : List Ed), j + g2 = (E x).length ∧ s20 = .int .i64 j ∧ Hid (o2 = out ++ ((E x).take j).map (mkE x)) ∧ o2.length = out.length + j ∧ wr.ranges Try.prog 33 heldE fm w.heap.size n D (fun z => left z && !z.sameKey kl) cnt1 ∧ OL KD wr (w.heap.size + 1) s3 o2 ∧ Blk wr gx 33 #[.int .i64 x.row, .int .i64 x.col] ∧ Below w.heap.size w wr)
      case atStart => exact ⟨0, out, by omega, rfl, Lib.hid (by simp), rfl, hrg2, hO2, kx, hB2⟩
      case round =>
        obtain ⟨j, o2, hj, rfl, HO2, hol2, hrg3, hO3, kx3, hW3⟩ := hrel
        clear hrg2 hO2 kx hB2
        have hnd2 : o2.Nodup := by
          rw [HO2.out, List.nodup_append]
          refine ⟨hnd, ?_, fun a ha b hb => ?_⟩
          · exact List.Pairwise.map _ (fun a b hab e => hab (mkE_inj e)) ((HND.out x).sublist (List.take_sublist j _))
          · obtain ⟨r, _, rfl⟩ := List.mem_map.1 hb
            rintro rfl
            exact HNO.out _ ha rfl
        have HIN2 : Hid (∀ e, e ∈ o2 → e ∈ Es) := Lib.hid (fun e he => by
          rw [HO2.out, List.mem_append] at he
          rcases he with he | he
          · exact HIN.out e he
          · obtain ⟨r, hr, rfl⟩ := List.mem_map.1 he
            exact (HM.out _).2 (List.mem_of_mem_take hr))
        by_cases hjl : j < (E x).length
        · obtain ⟨y, hy⟩ : ∃ y, (E x)[j]? = some y := ⟨_, List.getElem?_eq_getElem hjl⟩
          obtain ⟨g0, o0, hAe, hg0, c0, c1, c2, c3, c4⟩ := ref_at (hLi.below hW3) hy
          injection hAe with hAe
          injection hAe with hAe1 hAe2 _
          subst hAe1 hAe2
          rw [Nat.zero_add] at c0 c1 c2 c3 c4
          have hbd : o2.length + 1 ≤ Es.length := by
            have hh := sub_len (out := o2 ++ [mkE x y]) (Es := Es) (by
              rw [List.nodup_append]
              refine ⟨hnd2, by simp, fun a ha b hb => ?_⟩
              rw [List.mem_singleton.1 hb]
              rintro rfl
              rw [HO2.out, List.mem_append] at ha
              rcases ha with ha | ha
              · exact HNO.out _ ha rfl
              · obtain ⟨r, hr, e⟩ := List.mem_map.1 ha
                have e2 := mkE_inj e
                subst e2
                obtain ⟨i, hi, hi2⟩ := List.getElem_of_mem hr
                have h1 : i < j := by have := hi; simp at this; omega
                rw [List.getElem_take] at hi2
                have h3 := List.getElem?_eq_some_iff.1 hy
                obtain ⟨h4, h5⟩ := h3
                exact List.pairwise_iff_getElem.1 (HND.out x) i j (by omega) h4 h1 (by rw [hi2, h5])) (fun e he => by
              rcases List.mem_append.1 he with he | he
              · exact HIN2.out e he
              · rw [List.mem_singleton.1 he]
                exact (HM.out _).2 (List.mem_of_getElem? hy))
            rw [List.length_append, List.length_singleton] at hh
            exact hh
          have HO3 : Hid (o2 ++ [mkE x y] = out ++ ((E x).take (j + 1)).map (mkE x)) := Lib.hid (by rw [HO2.out, List.take_add_one, hy]; simp)
          have i0 : (0 : Int) ≤ (j : Int) := by omega
          have i1 : (j : Int) < ((E x).length : Int) := by omega
          have rdk := kx3.rd
          clear hy hnd2
          go_upto_region 8 with fail
          have ky := Blk.new wr rfl 49 #[.bool y.m, .int .i64 y.t, .int .i64 y.l, .int .i64 y.b, .int .i64 y.r]
          have hO4 := hO3.alloc (.cells #[.bool y.m, .int .i64 y.t, .int .i64 y.l, .int .i64 y.b, .int .i64 y.r] 49)
          have hB4 := bel_alloc hW3 (.cells #[.bool y.m, .int .i64 y.t, .int .i64 y.l, .int .i64 y.b, .int .i64 y.r] 49)
          have hrg4 := hrg3.alloc (.cells #[.bool y.m, .int .i64 y.t, .int .i64 y.l, .int .i64 y.b, .int .i64 y.r] 49)
          have kx4 := kx3.alloc (.cells #[.bool y.m, .int .i64 y.t, .int .i64 y.l, .int .i64 y.b, .int .i64 y.r] 49)
          generalize hwz : wr.alloc (.cells #[.bool y.m, .int .i64 y.t, .int .i64 y.l, .int .i64 y.b, .int .i64 y.r] 49) = w4 at ky hO4 hB4 hrg4 kx4 ⊢
          generalize wr.heap.size = gy at ky ⊢
          clear hwz hrg3 hO3 hW3 kx3 rdk c0 c1 c2 c3 c4
          have rdy := ky.rd
          have rdk := kx4.rd
          have hO6 := hO4.alloc (.cells #[.int .i64 x.row, .int .i64 x.col, .bool y.m, .int .i64 y.t, .int .i64 y.l, .int .i64 y.b, .int .i64 y.r] 51)
          have hrg6 := hrg4.alloc (.cells #[.int .i64 x.row, .int .i64 x.col, .bool y.m, .int .i64 y.t, .int .i64 y.l, .int .i64 y.b, .int .i64 y.r] 51)
          have hB6 := bel_alloc hB4 (.cells #[.int .i64 x.row, .int .i64 x.col, .bool y.m, .int .i64 y.t, .int .i64 y.l, .int .i64 y.b, .int .i64 y.r] 51)
          have kx6 := kx4.alloc (.cells #[.int .i64 x.row, .int .i64 x.col, .bool y.m, .int .i64 y.t, .int .i64 y.l, .int .i64 y.b, .int .i64 y.r] 51)
          have hlies : Lies KD (w4.alloc (.cells #[.int .i64 x.row, .int .i64 x.col, .bool y.m, .int .i64 y.t, .int .i64 y.l, .int .i64 y.b, .int .i64 y.r] 51)) (some ⟨w4.heap.size, 0, none⟩) [mkE x y] := Lies.blk (Blk.new w4 rfl 51 #[.int .i64 x.row, .int .i64 x.col, .bool y.m, .int .i64 y.t, .int .i64 y.l, .int .i64 y.b, .int .i64 y.r]) rfl
          have hb1 : o2.length + [mkE x y].length ≤ maxLen := by show _ + 1 ≤ _; unfold maxLen; omega
          have hb2 : (o2.length + [mkE x y].length) * KD.bytes ≤ 140737488355328 := by show (_ + 1) * 56 ≤ _; omega
          have hb3 : w.heap.size + 1 ≤ (w4.alloc (.cells #[.int .i64 x.row, .int .i64 x.col, .bool y.m, .int .i64 y.t, .int .i64 y.l, .int .i64 y.b, .int .i64 y.r] 51)).heap.size := hrg6.lt
          go_wp2_with (at_builtin; (refine wp_ol_append info_kd rfl Try.underlying27 rfl _ _ rfl rfl hO6 (M := [mkE x y]) (c := 1) rfl rfl hlies hb1 hb2 hb3 ?_); intro v7 w7 hO7 hg7)
          have hB7 := bel_grown hB6 hg7 (fun z hz => by have := (hO6.lt z hz).1; omega)
          have hrg7 := hrg6.kept hg7 (fun e => AP.ne_map (.inr hO6) (mp_own hrg6.owns) _ e.symm rfl) (fun e => AP.ne_iter (.inr hO6) hrg6 _ e.symm rfl)
          have kx7 := kx6.grownX hg7 (fun e => by
            obtain ⟨cur, hcur⟩ := hO6.type gx e.symm
            have hk : (w4.alloc (.cells #[.int .i64 x.row, .int .i64 x.col, .bool y.m, .int .i64 y.t, .int .i64 y.l, .int .i64 y.b, .int .i64 y.r] 51)).heap[gx]? = some (.cells _ 33 (0, 0)) := kx6
            rw [hcur] at hk
            injection hk with hk
            injection hk with _ hk _
            exact absurd hk (of_decide_eq_false (by kernel_rfl)))
          go_roundg ((E x).length - (j + 1))
          case measure => omega
          case rel => exact ⟨j + 1, o2 ++ [mkE x y], by omega, by go_num, HO3, by rw [List.length_append, List.length_singleton]; omega, hrg7, hO7, kx7, hB7⟩
        · obtain rfl : j = (E x).length := by omega
          have HO2' : Hid (o2 = out ++ (E x).map (mkE x)) := Lib.hid (by have := HO2.out; rwa [List.take_length] at this)
          have hnm : ∀ e, e ∈ o2 ↔ e ∈ out ∨ (eCl e = x ∧ e ∈ Es) := fun e => by
            rw [HO2'.out, List.mem_append, List.mem_map]
            constructor
            · rintro (h1 | ⟨r, hr, rfl⟩)
              · exact .inl h1
              · exact .inr ⟨rfl, (HM.out _).2 hr⟩
            · rintro (h1 | ⟨h1, h2⟩)
              · exact .inl h1
              · exact .inr ⟨eRf e, by rw [← h1]; exact (HM.out e).1 h2, by rw [← h1]; exact mkE_of e⟩
          have HNM := Lib.hid hnm
          clear hnm
          go_wp2_with fail
          go_roundg cnt1
          case measure => omega
          case rel =>
            refine ⟨o2, _, cnt1, Nat.le_refl _, hrg3, hO3, hnd2, HIN2, Lib.hid (fun e l hl h1 he => ?_), Lib.hid (fun e l hl he h0 => ?_), HSUB2, hW3⟩
            · rcases (HNM.out e).1 he with h2 | ⟨h2, _⟩
              · exact HNL2.out e l hl h1 h2
              · rw [h2, HKX.out] at hl
                injection hl with hl
                rw [← hl, WideAt.sameKey_self (law_cell.key HKX.out)] at h1
                simp at h1
            · refine (HNM.out e).2 ?_
              cases hll : left l with
              | false => exact .inl (HLF.out e l hl he hll)
              | true =>
                rw [hll, Bool.true_and, Bool.not_eq_false'] at h0
                have := WideAt.sameKey_eq h0
                subst this
                exact .inr ⟨cellV_inj _ _ (law_cell.inj hl HKX.out), he⟩
end Go.Proofs.Ytpgnebhlnkoajaa

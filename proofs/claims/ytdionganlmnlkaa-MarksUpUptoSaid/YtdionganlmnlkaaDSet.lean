/-
  Deps: contract of Set. Conditions: those of each theorem.
-/
import Derived.Test.YtdionganlmnlkaaDSet0
namespace Go.Proofs.Ytdionganlmnlkaa
open Go.ChangeShapes Go.WideShapes Go.ChangeAt Go.RowKit Go.Deep
attribute [local go_sem] Cls

theorem okR_rng {x : Rf} (h : okR x = true) : i64P x.t ∧ i64P x.l ∧ i64P x.b ∧ i64P x.r := by
  unfold okR mayR mayB at h
  simp at h
  unfold i64P
  omega
theorem upE_upE (E : Cl → List Rf) (c : Cl) (D D' : List Rf) (q : Cl) : upE (upE E c D) c D' q = upE E c D' q := by
  by_cases e : q = c
  · rw [e, upE_same, upE_same]
  · rw [upE_other _ _ e, upE_other _ _ e, upE_other _ _ e]
section
variable {w wr w' : World} {db fm tm bb n : Nat} {O Oc : Nat → Prop} {Ps : List Pr} {f t fc tc : Cl → Option Value} {Ef : Cl → List Rf} {Wh : Cl → List Cl}
theorem DMem.grp' (h : DMem w db fm tm bb n O Ps f t Ef Wh) {s : Cl} {g : Nat} (hs : t s = some (.map (some g))) : CSet w g n (Wh s) := by
  obtain ⟨g', e, hg⟩ := h.grp s _ hs
  injection e with e
  injection e with e
  subst e
  exact hg
/-- A list beside it is appended to. -/
theorem DStep.app (h : DStep w wr db fm tm bb n O f t Oc Ps fc tc Ef Wh) {v : Value} (hg : wr.grownBy w' v.ownBlock) (hno : ∀ g, v.ownBlock = some g → ¬ ownD db fm tm Oc fc tc g) (hnw : ∀ g, v.ownBlock = some g → w.heap.size ≤ g) : DStep w w' db fm tm bb n O f t Oc Ps fc tc Ef Wh := by
  refine ⟨h.mem.frm_ (S := fun z => v.ownBlock = some z) ⟨hg.os, hg.tape, hg.output, hg.size, fun k hk hn => hg.block k hk (fun e => hn e.symm)⟩ (fun z hz e => hno z e hz), ?_, h.own⟩
  exact h.fr.then_ (S' := fun z => v.ownBlock = some z) ⟨hg.os, hg.tape, hg.output, hg.size, fun k hk hn => hg.block k hk (fun e => hn e.symm)⟩ (fun z e hlt => by have := hnw z e; omega)
theorem ol_ty {B : Nat} {v : Value} {L : List Rf} (h : OL KF w B v L) {g : Nat} (hg : v.ownBlock = some g) {u : TypeId} {cs : Array Value} (hb : Blk w g u cs) (hne : u ≠ 53) : False := by
  obtain ⟨cur, hcur⟩ := h.type g hg
  have hb' : w.heap[g]? = some (.cells cs u (0, 0)) := hb
  rw [hcur] at hb'
  injection hb' with hb'
  injection hb' with _ hb' _
  exact hne hb'.symm
end

theorem DMem.len_le {w : World} {db fm tm bb n : Nat} {O : Nat → Prop} {Ps : List Pr} {f t : Cl → Option Value} {Ef : Cl → List Rf} {Wh : Cl → List Cl} (h : DMem w db fm tm bb n O Ps f t Ef Wh) (c : Cl) : (Ef c).length ≤ 9223372036854775807 := by
  cases hf : f c with
  | none => rw [h.fno c hf]; simp
  | some v =>
    obtain ⟨g, cap, rfl, hL⟩ := h.lst c v hf
    obtain ⟨A, c', _, h1, h2, _⟩ := hL.see
    unfold maxLen at h2
    omega
/-- A list made since is none of its own. -/
theorem DStep.no {w wr : World} {db fm tm bb n B : Nat} {O Oc : Nat → Prop} {Ps : List Pr} {f t fc tc : Cl → Option Value} {Ef : Cl → List Rf} {Wh : Cl → List Cl} {v : Value} {L : List Rf} (st : DStep w wr db fm tm bb n O f t Oc Ps fc tc Ef Wh) (hf : ∀ c m cap z, fc c = some (.slice (some ⟨z, 0, none⟩) m cap) → z < w.heap.size) (hl : OL KF wr B v L) (hB : w.heap.size ≤ B) : ∀ g, v.ownBlock = some g → ¬ ownD db fm tm Oc fc tc g := fun g hg hz => by
  obtain ⟨cur, hcur⟩ := hl.type g hg
  have hb := (hl.lt g hg).1
  rcases hz with rfl | rfl | rfl | hz | ⟨q, hq⟩ | ⟨c, m, cap, hq⟩
  · have h1 := st.mem.top
    unfold Blk at h1
    rw [hcur] at h1
    injection h1 with h1
    injection h1 with _ h1 _
    exact absurd h1 (of_decide_eq_false (by kernel_rfl))
  · exact (mp_fun st.mem.frm).ne hcur rfl
  · exact (mp_fun st.mem.tof).ne hcur rfl
  · exact absurd (st.mem.bnd.ty hz hcur) (of_decide_eq_false (by kernel_rfl))
  · obtain ⟨g', e, hg'⟩ := st.mem.grp q _ hq
    injection e with e
    injection e with e
    subst e
    exact (mp_set hg').ne hcur rfl
  · have := hf c m cap g hq
    omega
set_option maxHeartbeats 12800000 in
set_option maxRecDepth 100000 in
theorem dset_any (db fm tm bb n : Nat) (O : Nat → Prop) (Ps : List Pr) (f t : Cl → Option Value) (E : Cl → List Rf) (Wh : Cl → List Cl) (row col : Int) (L : List Rf) (A : Option Addr) (cap : Nat) (w : World)
    (h : DMem w db fm tm bb n O Ps f t E Wh) (hr : DRel Ps Wh E) (hA : Lies KF w A L) (hAn : ∀ x, x ∈ L → ∀ b off, A = some ⟨b, off, none⟩ → ¬ ownD db fm tm O f t b) (hn : n + 2 * L.length + 1 ≤ 1099511627776) (hLl : L.length ≤ 1099511627776) :
    Calls Try.prog 10 #[.pointer (some ⟨db, 0, none⟩), .agg #[.int .i64 row, .int .i64 col], .slice A L.length cap] w (DSetIs w db fm tm bb n O f t E ⟨row, col⟩ L) := by
  go_enter Try.func10, Try.ntmps10
  go_wp2_with fail
  have kc := Blk.new w rfl 32 #[.int .i64 row, .int .i64 col]
  have hW := bel_alloc (bel_refl w) (.cells #[.int .i64 row, .int .i64 col] 32)
  refine (may_any row col _).mono ?_
  rintro e w1 ⟨rfl, hb1⟩
  replace kc := kc.below hb1
  replace hW := bel_call hW hb1
  clear hb1
  cases hm : mayB row col with
  | false =>
    have hfin := dset_no h hr hW (setE_addr (c := ⟨row, col⟩) (L := L) hm) (by decide)
    go_wp2_with fail
    go_ret
    exact hfin
  | true =>
  have HMY : Hid (mayB (⟨row, col⟩ : Cl).row (⟨row, col⟩ : Cl).col = true) := Lib.hid hm
  have HRC : Hid (rngC ⟨row, col⟩) := Lib.hid (rngC_of_may (x := ⟨row, col⟩) hm)
  obtain ⟨klc, hklc⟩ := key_cell ⟨row, col⟩ HRC.out
  have HKC := Lib.hid hklc
  clear hm hklc
  go_wp2_with fail
  go_loopw [20] (fun s20 wr => ∃ k : Nat, k ≤ L.length ∧ s20 = .int .i64 k ∧ Hid (∀ x, x ∈ L.take k → okR x = true) ∧ Blk wr w.heap.size 32 #[.int .i64 row, .int .i64 col] ∧ Below w.heap.size w wr) (fun s20 _ => L.length - (intOf s20).toNat)
  case atStart => exact ⟨0, Nat.zero_le _, rfl, Lib.hid (fun x hx => by simp at hx), kc, hW⟩
  case round =>
    have kc0 := kc
    have hW0 := hW
    clear kc hW
    obtain ⟨k, hk, rfl, HOK, kc, hW⟩ := hrel
    clear kc0 hW0
    by_cases hkl : k < L.length
    · obtain ⟨x, hx⟩ : ∃ x, L[k]? = some x := ⟨_, List.getElem?_eq_getElem hkl⟩
      obtain ⟨g0, o0, hAe, hg0, c0, c1, c2, c3, c4⟩ := ref_at (hA.below hW) hx
      subst hAe
      have HX := Lib.hid hx
      have i0 : (0 : Int) ≤ (k : Int) := by omega
      have i1 : (k : Int) < (L.length : Int) := by omega
      clear hx
      go_wp2_with fail
      refine (dmay_any x.m x.t x.l x.b x.r _).mono ?_
      rintro e w4 ⟨rfl, hb4⟩
      have hb4' := bel_call (bel_alloc (bel_refl wr) (.cells #[.bool x.m, .int .i64 x.t, .int .i64 x.l, .int .i64 x.b, .int .i64 x.r] 53)) hb4
      clear hb4 c0 c1 c2 c3 c4
      cases hxo : okR ⟨x.m, x.t, x.l, x.b, x.r⟩ with
      | false =>
        have hbad : L.all okR = false := by
          rw [List.all_eq_false]
          exact ⟨x, List.mem_of_getElem? HX.out, by rw [show x = ⟨x.m, x.t, x.l, x.b, x.r⟩ from rfl, hxo]; simp⟩
        have hfin := dset_no h hr (bel_call hW hb4') (setE_bad (c := ⟨row, col⟩) HMY.out hbad) (by decide)
        go_wp2_with fail
        go_ret
        exact hfin
      | true =>
        have HOK2 : Hid (∀ y, y ∈ L.take (k + 1) → okR y = true) := Lib.hid (fun y hy => by
          rw [List.take_add_one, HX.out, List.mem_append] at hy
          rcases hy with h1 | h1
          · exact HOK.out y h1
          · have h2 : y = x := by simpa using h1
            rw [h2]; exact hxo)
        go_wp2_with fail
        go_roundw
        case rel => exact ⟨k + 1, by omega, by go_num, HOK2, kc.below hb4', bel_call hW hb4'⟩
        case measure => simp [intOf]; omega
    obtain rfl : k = L.length := by omega
    have HALL : Hid (∀ x, x ∈ L → okR x = true) := Lib.hid (by have := HOK.out; rwa [List.take_length] at this)
    have HE : Hid (setE ⟨row, col⟩ L = 0) := Lib.hid (setE_ok HMY.out (List.all_eq_true.2 HALL.out))
    obtain ⟨A2, cap2, hval⟩ := h.refs ⟨row, col⟩
    have hEl : (E ⟨row, col⟩).length ≤ 9223372036854775807 := h.len_le ⟨row, col⟩
    clear HOK
    go_wp2_with fail
    obtain ⟨S, hSS⟩ : ∃ S : World → Prop, S = fun w' => Blk w' db 74 #[.map (some fm), .map (some tm), .pointer (some ⟨bb, 0, none⟩)] ∧ Blk w' w.heap.size 32 #[.int .i64 row, .int .i64 col] ∧ (Instr.lookup 70 (.map (some fm)) (.agg #[.int .i64 row, .int .i64 col]) false).run Try.prog w' = .ok (.slice A2 (E ⟨row, col⟩).length cap2) w' := ⟨_, rfl⟩
    have q0 := fun x => ((held_of hSS x).1).rd
    have p0 := fun x => ((held_of hSS x).1).lt
    have q1 := fun x => ((held_of hSS x).2.1).rd
    have p1 := fun x => ((held_of hSS x).2.1).lt
    have q2 := fun x => (held_of hSS x).2.2
    have HSS := Lib.hid hSS
    have hS0 : S wr.drew := held_in HSS.out ⟨(h.below hW).top.drew, kc.drew, (by rw [(h.below (bel_drew hW)).look_f ⟨row, col⟩ HRC.out, hval])⟩
    haveI : Nonempty (Held S) := ⟨⟨_, hS0⟩⟩
    clear hSS
    refine wp_region_tree (S := S) 8 (.q 0 <| .q 1 <| .q 2 <| .q 3 <| .q 4 <| .q 5 <| .q 6 <| .q 7 <| .done) [] (by kernel_rfl) (by kernel_rfl) hS0 ?_
    repeat (refine tree_q (by rfl) (by rfl) (fun K hK => ?_); go_simp; refine hK _ ?_; clear hK K)
    refine tree_nil ?_
    clear q0 p0 q1 p1 q2 hS0 HSS
    have st0 : DStep w wr.drew db fm tm bb n O f t O Ps f t E Wh := ⟨h.below (bel_drew hW), Frm.of_below (bel_drew hW), fun z hz => .inl hz⟩
    have kc0 := kc.drew
    generalize hwz : wr.drew = w0 at st0 kc0 ⊢
    clear hwz kc hW hkl
    go_wp2_with fail
    go_loopw [35] (fun s35 wr => ∃ (k : Nat) (Oc : Nat → Prop) (Ps2 : List Pr) (tc : Cl → Option Value) (Wh2 : Cl → List Cl), k ≤ (E ⟨row, col⟩).length ∧ s35 = .int .i64 k ∧ DStep w wr db fm tm bb n O f t Oc Ps2 f tc E Wh2 ∧ Hid (DRel Ps2 Wh2 (upE E ⟨row, col⟩ ((E ⟨row, col⟩).drop k))) ∧ Blk wr w.heap.size 32 #[.int .i64 row, .int .i64 col]) (fun s35 _ => (E ⟨row, col⟩).length - (intOf s35).toNat)
    case atStart => exact ⟨0, O, Ps, t, Wh, Nat.zero_le _, rfl, st0, Lib.hid (hr.extE (fun q => by
      by_cases e : q = ⟨row, col⟩
      · rw [e, upE_same]; rfl
      · rw [upE_other _ _ e])), kc0⟩
    case round =>
      obtain ⟨k, Oc, Ps2, tc, Wh2, hk', rfl, st, HREL, kc⟩ := hrel
      clear st0 kc0
      by_cases hkl : k < (E ⟨row, col⟩).length
      · skip
        obtain ⟨x, hx⟩ : ∃ x, (E ⟨row, col⟩)[k]? = some x := ⟨_, List.getElem?_eq_getElem hkl⟩
        obtain ⟨g0, o0, hAe, hg0, c0, c1, c2, c3, c4⟩ := ref_at (st.mem.lies hval) hx
        subst hAe
        have hdrop : (E ⟨row, col⟩).drop k = x :: (E ⟨row, col⟩).drop (k + 1) := by
          rw [List.drop_eq_getElem_cons hkl, (List.getElem?_eq_some_iff.1 hx).2]
        have hxin := hr.ok _ x (List.mem_of_getElem? hx)
        have hxr := okR_rng hxin.1
        have HRN : Hid (rngP ⟨row, col, x.t, x.l, x.b, x.r⟩) := Lib.hid ⟨⟨hxr.1, hxr.2.1, hxr.2.2.1⟩, hxr.2.2.2, (rngC_of_may hxin.2).1, (rngC_of_may hxin.2).2⟩
        have HRS : Hid (rngC ⟨x.t, x.l⟩) := Lib.hid ⟨hxr.1, hxr.2.1⟩
        have i0 : (0 : Int) ≤ (k : Int) := by omega
        have i1 : (k : Int) < ((E ⟨row, col⟩).length : Int) := by omega
        have HXO := Lib.hid hxin.1
        have HDR := Lib.hid hdrop
        clear hx hdrop hxin hxr
        cases hxm : x.m with
        | true =>
          rw [hxm] at c0
          have HREL2 : Hid (DRel (Ps2.erase (mkP ⟨row, col⟩ x)) Wh2 (upE E ⟨row, col⟩ ((E ⟨row, col⟩).drop (k + 1)))) := Lib.hid ((HREL.out.cutM st.mem.bnd.srt (by rw [upE_same]; exact HDR.out) hxm).extE (fun q => upE_upE _ _ _ _ _))
          clear hxm
          go_upto_region 13 with fail
          clear c0 c1 c2 c3 c4
          have kx := Blk.new wr rfl 53 #[.bool true, .int .i64 x.t, .int .i64 x.l, .int .i64 x.b, .int .i64 x.r]
          have st3 := st.below (bel_alloc (bel_refl wr) (.cells #[.bool true, .int .i64 x.t, .int .i64 x.l, .int .i64 x.b, .int .i64 x.r] 53))
          have kc3 := kc.alloc (.cells #[.bool true, .int .i64 x.t, .int .i64 x.l, .int .i64 x.b, .int .i64 x.r] 53)
          generalize hwz : wr.alloc (.cells #[.bool true, .int .i64 x.t, .int .i64 x.l, .int .i64 x.b, .int .i64 x.r] 53) = w3 at *
          generalize wr.heap.size = gx at *
          clear hwz
          obtain ⟨S, hSS⟩ : ∃ S : World → Prop, S = fun w' => Blk w' db 74 #[.map (some fm), .map (some tm), .pointer (some ⟨bb, 0, none⟩)] ∧ Blk w' gx 53 #[.bool true, .int .i64 x.t, .int .i64 x.l, .int .i64 x.b, .int .i64 x.r] ∧ Blk w' w.heap.size 32 #[.int .i64 row, .int .i64 col] := ⟨_, rfl⟩
          have q0 := fun x => ((held_of hSS x).1).rd
          have p0 := fun x => ((held_of hSS x).1).lt
          have q1 := fun x => ((held_of hSS x).2.1).rd
          have p1 := fun x => ((held_of hSS x).2.1).lt
          have q2 := fun x => ((held_of hSS x).2.2).rd
          have p2 := fun x => ((held_of hSS x).2.2).lt
          have HSS := Lib.hid hSS
          have hS0 : S w3.drew := held_in HSS.out ⟨st3.mem.top.drew, kx.drew, kc3.drew⟩
          haveI : Nonempty (Held S) := ⟨⟨_, hS0⟩⟩
          clear hSS
          refine wp_region_tree (S := S) 8 (.q 0 <| .q 1 <| .q 2 <| .q 3 <| .q 4 <| .q 5 <| .q 6 <| .a 7 <| .done) [] (by kernel_rfl) (by kernel_rfl) hS0 ?_
          repeat (refine tree_q (by rfl) (by rfl) (fun K hK => ?_); go_simp; refine hK _ ?_; clear hK K)
          refine tree_a (by rfl) (by rfl) (fun K hK => ?_)
          go_simp
          refine (pb_rem bb n Oc Ps2 x.t x.l x.b x.r row col _ (st3.mem.bnd.below (bel_drew (bel_refl w3))) HRN.out).mono ?_
          rintro e w4 ⟨O4, rfl, hP4, hF4, hO4⟩
          have hPd := st3.mem.bnd.below (bel_drew (bel_refl w3))
          have kd4 := blkO hF4 hPd st3.mem.top.drew (of_decide_eq_false (by kernel_rfl))
          have kx4 := blkO hF4 hPd kx.drew (of_decide_eq_false (by kernel_rfl))
          have kc4 := blkO hF4 hPd kc3.drew (of_decide_eq_false (by kernel_rfl))
          have st4 := (st3.below (bel_drew (bel_refl w3))).bands hP4 hF4 (fun z hz => .inl (hO4 z hz)) (Nat.le_refl n)
          refine hK _ _ (held_in HSS.out ⟨kd4, kx4, kc4⟩) ?_
          clear hK K
          repeat (refine tree_q (by rfl) (by rfl) (fun K hK => ?_); go_simp; refine hK _ ?_; clear hK K)
          refine tree_nil ?_
          clear q0 p0 q1 p1 q2 p2 hS0 HSS
          clear kd4 kx4 kx
          go_wp2_with fail
          go_roundw
          case rel => exact ⟨k + 1, O4, _, tc, Wh2, by omega, by go_num, st4, HREL2, kc4⟩
          case measure => simp [intOf]; omega
        | false =>
          rw [hxm] at c0
          have hxo := okR_one HXO.out hxm
          have hmem : (⟨row, col⟩ : Cl) ∈ Wh2 ⟨x.t, x.l⟩ := (HREL.out.wh ⟨x.t, x.l⟩ ⟨row, col⟩).2 (by rw [upE_same, HDR.out, ← hxo]; simp)
          obtain ⟨g, htg, _⟩ := st.mem.wh_lt hmem
          have HTG := Lib.hid htg
          have HREL2 : Hid (DRel Ps2 (fun q => if q = (⟨x.t, x.l⟩ : Cl) then (Wh2 ⟨x.t, x.l⟩).filter (fun y => decide (y ≠ ⟨row, col⟩)) else Wh2 q) (upE E ⟨row, col⟩ ((E ⟨row, col⟩).drop (k + 1)))) := Lib.hid ((HREL.out.cutS (by rw [upE_same]; exact HDR.out) hxm).extE (fun q => upE_upE _ _ _ _ _))
          obtain ⟨kls, hkls⟩ := key_cell ⟨x.t, x.l⟩ HRS.out
          have HKS := Lib.hid hkls
          clear hxm hxo hmem htg hkls
          go_upto_region 14 with fail
          clear c0 c1 c2 c3 c4
          have kx := Blk.new wr rfl 53 #[.bool false, .int .i64 x.t, .int .i64 x.l, .int .i64 x.b, .int .i64 x.r]
          have st3 := st.below (bel_alloc (bel_refl wr) (.cells #[.bool false, .int .i64 x.t, .int .i64 x.l, .int .i64 x.b, .int .i64 x.r] 53))
          have kc3 := kc.alloc (.cells #[.bool false, .int .i64 x.t, .int .i64 x.l, .int .i64 x.b, .int .i64 x.r] 53)
          generalize hwz : wr.alloc (.cells #[.bool false, .int .i64 x.t, .int .i64 x.l, .int .i64 x.b, .int .i64 x.r] 53) = w3 at *
          generalize wr.heap.size = gx at *
          clear hwz
          obtain ⟨S, hSS⟩ : ∃ S : World → Prop, S = fun w' => Blk w' db 74 #[.map (some fm), .map (some tm), .pointer (some ⟨bb, 0, none⟩)] ∧ Blk w' gx 53 #[.bool false, .int .i64 x.t, .int .i64 x.l, .int .i64 x.b, .int .i64 x.r] ∧ Blk w' w.heap.size 32 #[.int .i64 row, .int .i64 col] ∧ (Instr.lookup 71 (.map (some tm)) (.agg #[.int .i64 x.t, .int .i64 x.l]) false).run Try.prog w' = .ok (.map (some g)) w' := ⟨_, rfl⟩
          have q0 := fun x => ((held_of hSS x).1).rd
          have p0 := fun x => ((held_of hSS x).1).lt
          have q1 := fun x => ((held_of hSS x).2.1).rd
          have p1 := fun x => ((held_of hSS x).2.1).lt
          have q2 := fun x => ((held_of hSS x).2.2.1).rd
          have p2 := fun x => ((held_of hSS x).2.2.1).lt
          have q3 := fun x => (held_of hSS x).2.2.2
          have HSS := Lib.hid hSS
          have hS0 : S w3.drew := held_in HSS.out ⟨st3.mem.top.drew, kx.drew, kc3.drew, (by rw [(st3.below (bel_drew (bel_refl w3))).mem.look_t ⟨x.t, x.l⟩ HRS.out, HTG.out]; rfl)⟩
          haveI : Nonempty (Held S) := ⟨⟨_, hS0⟩⟩
          clear hSS
          refine wp_region_tree (S := S) 8 (.q 0 <| .q 1 <| .q 2 <| .q 3 <| .q 4 <| .a 5 <| .q 6 <| .q 7 <| .done) [] (by kernel_rfl) (by kernel_rfl) hS0 ?_
          repeat (refine tree_q (by rfl) (by rfl) (fun K hK => ?_); go_simp; refine hK _ ?_; clear hK K)
          refine tree_a (by rfl) (by rfl) (fun K hK => ?_)
          go_simp
          refine (single_any false x.t x.l x.b x.r _).mono ?_
          rintro e w4 ⟨rfl, hb4⟩
          have hb4' := bel_call (bel_drew (bel_refl w3)) hb4
          have st4 := st3.below hb4'
          have kx4 := kx.below hb4'
          have kc4 := kc3.below hb4'
          refine hK _ _ (held_in HSS.out ⟨st4.mem.top, kx4, kc4, by rw [st4.mem.look_t ⟨x.t, x.l⟩ HRS.out, HTG.out]; rfl⟩) ?_
          clear hK K
          repeat (refine tree_q (by rfl) (by rfl) (fun K hK => ?_); go_simp; refine hK _ ?_; clear hK K)
          refine tree_nil ?_
          clear q0 p0 q1 p1 q2 p2 q3 hS0 HSS
          clear hb4 hb4' kx kc3 st3
          have hset4 := st4.mem.grp' HTG.out
          obtain ⟨w5, hrun5, hset5, hg5⟩ := hset4.del_run law_cell Try.underlying76 cellV_inj ⟨row, col⟩ HKC.out 0
          have hrun5' : (Builtin.delete_ #[76, 32] 0 #[.map (some g), .agg #[.int .i64 row, .int .i64 col]]).run Try.prog w4 = .ok (.tuple #[]) w5 := hrun5
          have st5 := st4.group HTG.out hg5 hset5 (Nat.le_refl n)
          have kc5 := kc4.grown hg5 ((mp_set hset4).ne kc4)
          have kx5 := kx4.grown hg5 ((mp_set hset4).ne kx4)
          obtain ⟨z, hz0, hlen⟩ := cset_len hset5 (fun p hp => rngC_of_may (HREL.out.ok p _ ((HREL.out.wh _ p).1 (List.mem_filter.1 hp).1)).2)
          have HZ0 := Lib.hid hz0
          have rdc := kc4.rd
          have hlen3 := hlen 3
          clear hrun5 hz0 hlen kx4 kc4
          by_cases hz : z = 0
          · subst hz
            go_wp2_with fail
            clear hrun5' rdc hlen3
            obtain ⟨S, hSS⟩ : ∃ S : World → Prop, S = fun w' => Blk w' db 74 #[.map (some fm), .map (some tm), .pointer (some ⟨bb, 0, none⟩)] ∧ Blk w' gx 53 #[.bool false, .int .i64 x.t, .int .i64 x.l, .int .i64 x.b, .int .i64 x.r] ∧ Blk w' w.heap.size 32 #[.int .i64 row, .int .i64 col] := ⟨_, rfl⟩
            have q0 := fun x => ((held_of hSS x).1).rd
            have p0 := fun x => ((held_of hSS x).1).lt
            have q1 := fun x => ((held_of hSS x).2.1).rd
            have p1 := fun x => ((held_of hSS x).2.1).lt
            have q2 := fun x => ((held_of hSS x).2.2).rd
            have p2 := fun x => ((held_of hSS x).2.2).lt
            have HSS := Lib.hid hSS
            have hS0 : S w5.drew := held_in HSS.out ⟨st5.mem.top.drew, kx5.drew, kc5.drew⟩
            haveI : Nonempty (Held S) := ⟨⟨_, hS0⟩⟩
            clear hSS
            refine wp_region_tree (S := S) 7 (.q 0 <| .q 1 <| .q 2 <| .q 3 <| .q 4 <| .a 5 <| .a 6 <| .done) [] (by kernel_rfl) (by kernel_rfl) hS0 ?_
            repeat (refine tree_q (by rfl) (by rfl) (fun K hK => ?_); go_simp; refine hK _ ?_; clear hK K)
            refine tree_a (by rfl) (by rfl) (fun K hK => ?_)
            go_simp
            refine (single_any false x.t x.l x.b x.r _).mono ?_
            rintro e w6 ⟨rfl, hb6⟩
            have hb6' := bel_call (bel_drew (bel_refl w5)) hb6
            have st6 := st5.below hb6'
            have kx6 := kx5.below hb6'
            have kc6 := kc5.below hb6'
            refine hK _ _ (held_in HSS.out ⟨st6.mem.top, kx6, kc6⟩) ?_
            clear hK K
            repeat (refine tree_q (by rfl) (by rfl) (fun K hK => ?_); go_simp; refine hK _ ?_; clear hK K)
            obtain ⟨w7, hrun7, hT7, hg7⟩ := st6.mem.tof.del_run law_cell Try.underlying71 cellV_inj ⟨x.t, x.l⟩ HKS.out 0
            have hrun7' : (Builtin.delete_ #[71, 32] 0 #[.map (some tm), .agg #[.int .i64 x.t, .int .i64 x.l]]).run Try.prog w6 = .ok (.tuple #[]) w7 := hrun7
            clear hrun7
            refine tree_a (by rfl) (by rfl) (fun K hK => ?_)
            go_simp
            have hmt := mp_fun st6.mem.tof
            have kc7 := kc6.grown hg7 (hmt.ne kc6)
            have kx7 := kx6.grown hg7 (hmt.ne kx6)
            have st7 := st6.tdel hg7 hT7 (by (try dsimp only); rw [if_pos rfl]; exact HZ0.out.1 (by simp))
            refine hK _ _ (held_in HSS.out ⟨st7.mem.top, kx7, kc7⟩) ?_
            clear hK K
            repeat (refine tree_q (by rfl) (by rfl) (fun K hK => ?_); go_simp; refine hK _ ?_; clear hK K)
            refine tree_nil ?_
            clear q0 p0 q1 p1 q2 p2 hS0 HSS
            clear hrun7' hb6 hb6' kx6 kc6 kx7
            go_wp2_with fail
            go_roundw
            case rel => exact ⟨k + 1, Oc, Ps2, _, _, by omega, by go_num, st7, HREL2, kc7⟩
            case measure => simp [intOf]; omega
          · have bz : ((z : Int) == 0) = false := by rw [beq_eq_false_iff_ne]; omega
            go_wp2_with fail
            go_roundw
            case rel => exact ⟨k + 1, Oc, Ps2, tc, _, by omega, by go_num, st5, HREL2, kc5⟩
            case measure => simp [intOf]; omega
      obtain rfl : k = (E ⟨row, col⟩).length := by omega
      rw [List.drop_length] at HREL
      have i1 : ¬ (((E ⟨row, col⟩).length : Int) < ((E ⟨row, col⟩).length : Int)) := by omega
      clear hkl
      go_wp2_with fail
      obtain ⟨w9, hrun9, hT9, hg9⟩ := (st.below (bel_drew (bel_refl wr))).mem.frm.del_run law_cell Try.underlying70 cellV_inj ⟨row, col⟩ HKC.out 0
      have hrun9' : (Builtin.delete_ #[70, 32] 0 #[.map (some fm), .agg #[.int .i64 row, .int .i64 col]]).run Try.prog wr.drew = .ok (.tuple #[]) w9 := hrun9
      have hmf := mp_fun (st.below (bel_drew (bel_refl wr))).mem.frm
      have kc9 := kc.drew.grown hg9 (hmf.ne kc.drew)
      have st9 := (st.below (bel_drew (bel_refl wr))).fdel hg9 hT9
      clear hrun9
      obtain ⟨S, hSS⟩ : ∃ S : World → Prop, S = fun w' => Blk w' db 74 #[.map (some fm), .map (some tm), .pointer (some ⟨bb, 0, none⟩)] ∧ Blk w' w.heap.size 32 #[.int .i64 row, .int .i64 col] := ⟨_, rfl⟩
      have q0 := fun x => ((held_of hSS x).1).rd
      have p0 := fun x => ((held_of hSS x).1).lt
      have q1 := fun x => ((held_of hSS x).2).rd
      have p1 := fun x => ((held_of hSS x).2).lt
      have HSS := Lib.hid hSS
      have hS0 : S wr.drew := held_in HSS.out ⟨st.mem.top.drew, kc.drew⟩
      haveI : Nonempty (Held S) := ⟨⟨_, hS0⟩⟩
      clear hSS
      refine wp_region_tree (S := S) 6 (.q 0 <| .q 1 <| .q 2 <| .q 3 <| .q 4 <| .a 5 <| .done) [] (by kernel_rfl) (by kernel_rfl) hS0 ?_
      repeat (refine tree_q (by rfl) (by rfl) (fun K hK => ?_); go_simp; refine hK _ ?_; clear hK K)
      refine tree_a (by rfl) (by rfl) (fun K hK => ?_)
      go_simp
      refine hK _ _ (held_in HSS.out ⟨st9.mem.top, kc9⟩) ?_
      clear hK K
      repeat (refine tree_q (by rfl) (by rfl) (fun K hK => ?_); go_simp; refine hK _ ?_; clear hK K)
      refine tree_nil ?_
      clear q0 p0 q1 p1 hS0 HSS
      clear hrun9'
      clear st kc i1 hmf
      obtain ⟨f2, hf2⟩ : ∃ f2 : Cl → Option Value, f2 = (fun q => if q = (⟨row, col⟩ : Cl) then none else f q) := ⟨_, rfl⟩
      rw [← hf2] at st9 hT9
      have HF2 : Hid (∀ c m cap z, f2 c = some (.slice (some ⟨z, 0, none⟩) m cap) → z < w.heap.size) := Lib.hid (fun c m cap z hq => by
        rw [hf2] at hq
        dsimp only at hq
        by_cases e : c = ⟨row, col⟩
        · rw [if_pos e] at hq; cases hq
        · rw [if_neg e] at hq
          exact h.lt (.inr (.inr (.inr (.inr (.inr ⟨c, m, cap, hq⟩))))))
      clear hf2 hT9
      go_wp2_with fail
      go_loopw [12, 75] (fun s12 s75 wr => ∃ (k m : Nat) (Oc : Nat → Prop) (Ps2 : List Pr) (tc : Cl → Option Value) (Wh2 : Cl → List Cl), k ≤ L.length ∧ s75 = .int .i64 k ∧ DStep w wr db fm tm bb m O f t Oc Ps2 f2 tc (fun q => if q = (⟨row, col⟩ : Cl) then [] else E q) Wh2 ∧ m ≤ n + 2 * k ∧ Hid (DRel Ps2 Wh2 (upE E ⟨row, col⟩ (ddp (L.take k)))) ∧ OL KF wr w.heap.size s12 (ddp (L.take k)) ∧ Blk wr w.heap.size 32 #[.int .i64 row, .int .i64 col]) (fun _ s75 _ => L.length - (intOf s75).toNat)
      case atStart => exact ⟨0, n, Oc, Ps2, tc, Wh2, Nat.zero_le _, rfl, st9, by omega, HREL, OL.nil _ _, kc9⟩
      case round =>
        obtain ⟨k, m, Oc, Ps2, tc, Wh2, hk, rfl, st, hmn, HREL, hl, kc⟩ := hrel
        clear st9 kc9
        by_cases hkl : k < L.length
        · skip
          obtain ⟨x, hx⟩ : ∃ x, L[k]? = some x := ⟨_, List.getElem?_eq_getElem hkl⟩
          obtain ⟨g0, o0, hAe, hg0, c0, c1, c2, c3, c4⟩ := ref_at (hA.frmS st.fr (hAn x (List.mem_of_getElem? hx))) hx
          subst hAe
          have hxo := HALL.out x (List.mem_of_getElem? hx)
          have hxr := okR_rng hxo
          have HRN : Hid (rngP ⟨row, col, x.t, x.l, x.b, x.r⟩) := Lib.hid ⟨⟨hxr.1, hxr.2.1, hxr.2.2.1⟩, hxr.2.2.2, HRC.out.1, HRC.out.2⟩
          have HRS : Hid (rngC ⟨x.t, x.l⟩) := Lib.hid ⟨hxr.1, hxr.2.1⟩
          obtain ⟨kls, hkls⟩ := key_cell ⟨x.t, x.l⟩ HRS.out
          have HKS := Lib.hid hkls
          have HXO := Lib.hid hxo
          have hdd := ddp_take hx
          have hddl := ddp_len (L.take k) []
          have hddl2 : (ddp (L.take k)).length ≤ L.length := by unfold ddp; simp at hddl; omega
          have i0 : (0 : Int) ≤ (k : Int) := by omega
          have i1 : (k : Int) < (L.length : Int) := by omega
          obtain ⟨A1, cap1, rfl, hc1, hc2, hl1, hA1⟩ := hl.see
          clear hx hxo hxr hkls hddl
          go_wp2_with fail
          have kx := Blk.new wr rfl 53 #[.bool x.m, .int .i64 x.t, .int .i64 x.l, .int .i64 x.b, .int .i64 x.r]
          have hb3 := bel_alloc (bel_refl wr) (.cells #[.bool x.m, .int .i64 x.t, .int .i64 x.l, .int .i64 x.b, .int .i64 x.r] 53)
          refine (contains_any (ddp (L.take k)) A1 cap1 x _ (hl1.below hb3) (by omega)).mono ?_
          rintro e w4 ⟨rfl, hb4⟩
          have hb4' := bel_call hb3 hb4
          have st4 := st.below hb4'
          have kx4 := kx.below hb4
          have kc4 := kc.below hb4'
          have hl4 := hl.below hb4'
          have hgx : ∀ g, (Value.slice A1 (ddp (L.take k)).length cap1).ownBlock = some g → g ≠ wr.heap.size := fun g hg e => by have := (hl.lt g hg).2; omega
          generalize wr.heap.size = gx at kx4 hgx ⊢
          clear hb3 hb4 hb4' kx c0 c1 c2 c3 c4 hl1
          by_cases hin : x ∈ ddp (L.take k)
          · have HDD : Hid (ddp (L.take (k + 1)) = ddp (L.take k)) := Lib.hid (by rw [hdd]; exact if_pos hin)
            rw [decide_eq_true hin]
            clear hin hdd
            go_wp2_with fail
            go_roundw
            case rel => exact ⟨k + 1, m, Oc, Ps2, tc, Wh2, by omega, by go_num, st4, by omega, by rw [HDD.out]; exact HREL, by rw [HDD.out]; exact hl4, kc4⟩
            case measure => simp [intOf]; omega
          · have HDD : Hid (ddp (L.take (k + 1)) = ddp (L.take k) ++ [x]) := Lib.hid (by rw [hdd]; exact if_neg hin)
            rw [decide_eq_false hin]
            have hno0 : x ∉ upE E ⟨row, col⟩ (ddp (L.take k)) ⟨row, col⟩ := by rw [upE_same]; exact hin
            have hb1 : (ddp (L.take k)).length + [x].length ≤ maxLen := by show _ + 1 ≤ _; unfold maxLen; omega
            have hb2 : ((ddp (L.take k)).length + [x].length) * KF.bytes ≤ 140737488355328 := by show (_ + 1) * 40 ≤ _; omega
            cases hxm : x.m with
            | true =>
              have HREL2 : Hid (DRel (addP (mkP ⟨row, col⟩ x) Ps2) Wh2 (upE E ⟨row, col⟩ (ddp (L.take (k + 1))))) := Lib.hid ((HREL.out.addM hxm HXO.out HMY.out hno0).extE (fun q => by rw [upE_same, HDD.out, upE_upE]))
              rw [hxm] at kx4
              have rdx := kx4.rd
              have hb5 := bel_alloc (bel_refl w4) (.cells #[.bool true, .int .i64 x.t, .int .i64 x.l, .int .i64 x.b, .int .i64 x.r] 53)
              have hl5 := hl4.below hb5
              have hlies : Lies KF (w4.alloc (.cells #[.bool true, .int .i64 x.t, .int .i64 x.l, .int .i64 x.b, .int .i64 x.r] 53)) (some ⟨w4.heap.size, 0, none⟩) [x] := Lies.blk (Blk.new w4 rfl 53 #[.bool true, .int .i64 x.t, .int .i64 x.l, .int .i64 x.b, .int .i64 x.r]) (by rw [← hxm]; rfl)
              have hb3 : w.heap.size ≤ (w4.alloc (.cells #[.bool true, .int .i64 x.t, .int .i64 x.l, .int .i64 x.b, .int .i64 x.r] 53)).heap.size := by have h1 := st4.fr.size; have h2 := hb5.size; omega
              have st5 := st4.below hb5
              have kx5 := kx4.below hb5
              have kc5 := kc4.below hb5
              clear hno0 hin hdd hxm
              go_wp2_with (at_builtin; (refine wp_ol_append info_kf rfl Try.underlying33 rfl _ _ rfl rfl hl5 (M := [x]) (c := 1) rfl rfl hlies hb1 hb2 hb3 ?_); intro v7 w7 hl7 hg7; have kx7 := kx5.grownX hg7 (fun e => hgx gx e.symm rfl); have rd7 := kx7.rd)
              have kc7 := kc5.grownX hg7 (fun e => ol_ty hl5 e.symm kc5 (of_decide_eq_false (by kernel_rfl)))
              have st7 := st5.app hg7 (st5.no HF2.out hl5 (Nat.le_refl _)) (fun g hg => (hl5.lt g hg).1)
              clear rdx rd7 hb5 hl5 hlies hb1 hb2 hb3 st5 kx5 kc5 hg7 kx4 kc4 st4
              obtain ⟨S, hSS⟩ : ∃ S : World → Prop, S = fun w' => Blk w' db 74 #[.map (some fm), .map (some tm), .pointer (some ⟨bb, 0, none⟩)] ∧ Blk w' gx 53 #[.bool true, .int .i64 x.t, .int .i64 x.l, .int .i64 x.b, .int .i64 x.r] ∧ Blk w' w.heap.size 32 #[.int .i64 row, .int .i64 col] := ⟨_, rfl⟩
              have q0 := fun x => ((held_of hSS x).1).rd
              have p0 := fun x => ((held_of hSS x).1).lt
              have q1 := fun x => ((held_of hSS x).2.1).rd
              have p1 := fun x => ((held_of hSS x).2.1).lt
              have q2 := fun x => ((held_of hSS x).2.2).rd
              have p2 := fun x => ((held_of hSS x).2.2).lt
              have HSS := Lib.hid hSS
              have hS0 : S w7.drew := held_in HSS.out ⟨st7.mem.top.drew, kx7.drew, kc7.drew⟩
              haveI : Nonempty (Held S) := ⟨⟨_, hS0⟩⟩
              clear hSS
              refine wp_region_tree (S := S) 8 (.q 0 <| .q 1 <| .q 2 <| .q 3 <| .q 4 <| .q 5 <| .q 6 <| .a 7 <| .done) [] (by kernel_rfl) (by kernel_rfl) hS0 ?_
              repeat (refine tree_q (by rfl) (by rfl) (fun K hK => ?_); go_simp; refine hK _ ?_; clear hK K)
              refine tree_a (by rfl) (by rfl) (fun K hK => ?_)
              go_simp
              refine (pb_add bb m Oc Ps2 x.t x.l x.b x.r row col _ (st7.mem.bnd.below (bel_drew (bel_refl w7))) HRN.out (by omega)).mono ?_
              rintro e w8 ⟨O8, rfl, hP8, hF8, hO8⟩
              have hPd := st7.mem.bnd.below (bel_drew (bel_refl w7))
              have kd8 := blkO hF8 hPd st7.mem.top.drew (of_decide_eq_false (by kernel_rfl))
              have kx8 := blkO hF8 hPd kx7.drew (of_decide_eq_false (by kernel_rfl))
              have kc8 := blkO hF8 hPd kc7.drew (of_decide_eq_false (by kernel_rfl))
              have hl8 := olO hF8 hPd hl7.drew
              have st8 := (st7.below (bel_drew (bel_refl w7))).bands hP8 hF8 hO8 (Nat.le_succ m)
              refine hK _ _ (held_in HSS.out ⟨kd8, kx8, kc8⟩) ?_
              clear hK K
              repeat (refine tree_q (by rfl) (by rfl) (fun K hK => ?_); go_simp; refine hK _ ?_; clear hK K)
              refine tree_nil ?_
              clear q0 p0 q1 p1 q2 p2 hS0 HSS
              clear kd8 kx8 kx7
              go_wp2_with fail
              go_roundw
              case rel => exact ⟨k + 1, m + 1, O8, _, tc, Wh2, by omega, by go_num, st8, by omega, HREL2, by rw [HDD.out]; exact hl8, kc8⟩
              case measure => simp [intOf]; omega
            | false =>
              have HREL2 : Hid (DRel Ps2 (fun q => if q = (⟨x.t, x.l⟩ : Cl) then ⟨row, col⟩ :: Wh2 ⟨x.t, x.l⟩ else Wh2 q) (upE E ⟨row, col⟩ (ddp (L.take (k + 1))))) := Lib.hid ((HREL.out.addS hxm HXO.out HMY.out hno0).extE (fun q => by rw [upE_same, HDD.out, upE_upE]))
              rw [hxm] at kx4
              have rdx := kx4.rd
              have hb5 := bel_alloc (bel_refl w4) (.cells #[.bool false, .int .i64 x.t, .int .i64 x.l, .int .i64 x.b, .int .i64 x.r] 53)
              have hl5 := hl4.below hb5
              have hlies : Lies KF (w4.alloc (.cells #[.bool false, .int .i64 x.t, .int .i64 x.l, .int .i64 x.b, .int .i64 x.r] 53)) (some ⟨w4.heap.size, 0, none⟩) [x] := Lies.blk (Blk.new w4 rfl 53 #[.bool false, .int .i64 x.t, .int .i64 x.l, .int .i64 x.b, .int .i64 x.r]) (by rw [← hxm]; rfl)
              have hb3 : w.heap.size ≤ (w4.alloc (.cells #[.bool false, .int .i64 x.t, .int .i64 x.l, .int .i64 x.b, .int .i64 x.r] 53)).heap.size := by have h1 := st4.fr.size; have h2 := hb5.size; omega
              have st5 := st4.below hb5
              have kx5 := kx4.below hb5
              have kc5 := kc4.below hb5
              clear hno0 hin hdd hxm
              go_wp2_with (at_builtin; (refine wp_ol_append info_kf rfl Try.underlying33 rfl _ _ rfl rfl hl5 (M := [x]) (c := 1) rfl rfl hlies hb1 hb2 hb3 ?_); intro v7 w7 hl7 hg7; have kx7 := kx5.grownX hg7 (fun e => hgx gx e.symm rfl); have rd7 := kx7.rd)
              have kc7 := kc5.grownX hg7 (fun e => ol_ty hl5 e.symm kc5 (of_decide_eq_false (by kernel_rfl)))
              have st7 := st5.app hg7 (st5.no HF2.out hl5 (Nat.le_refl _)) (fun g hg => (hl5.lt g hg).1)
              clear rdx rd7 hb5 hl5 hlies hb1 hb2 hb3 st5 kx5 kc5 hg7 kx4 kc4 st4
              cases htc : tc ⟨x.t, x.l⟩ with
              | some v =>
                obtain ⟨g, rfl, _⟩ := st7.mem.grp ⟨x.t, x.l⟩ v htc
                have HTC := Lib.hid htc
                have HTG := HTC
                clear htc
                have heqm := fun F w => run_eql_map_nil (P := Try.prog) w 76 _ _ F Try.underlying76
                obtain ⟨S, hSS⟩ : ∃ S : World → Prop, S = fun w' => Blk w' db 74 #[.map (some fm), .map (some tm), .pointer (some ⟨bb, 0, none⟩)] ∧ Blk w' gx 53 #[.bool false, .int .i64 x.t, .int .i64 x.l, .int .i64 x.b, .int .i64 x.r] ∧ Blk w' w.heap.size 32 #[.int .i64 row, .int .i64 col] ∧ (Instr.lookup 71 (.map (some tm)) (.agg #[.int .i64 x.t, .int .i64 x.l]) false).run Try.prog w' = .ok (.map (some g)) w' := ⟨_, rfl⟩
                have q0 := fun x => ((held_of hSS x).1).rd
                have p0 := fun x => ((held_of hSS x).1).lt
                have q1 := fun x => ((held_of hSS x).2.1).rd
                have p1 := fun x => ((held_of hSS x).2.1).lt
                have q2 := fun x => ((held_of hSS x).2.2.1).rd
                have p2 := fun x => ((held_of hSS x).2.2.1).lt
                have q3 := fun x => (held_of hSS x).2.2.2
                have HSS := Lib.hid hSS
                have hS0 : S w7.drew := held_in HSS.out ⟨st7.mem.top.drew, kx7.drew, kc7.drew, (by rw [(st7.below (bel_drew (bel_refl w7))).mem.look_t ⟨x.t, x.l⟩ HRS.out, HTC.out]; rfl)⟩
                haveI : Nonempty (Held S) := ⟨⟨_, hS0⟩⟩
                clear hSS
                refine wp_region_tree (S := S) 8 (.q 0 <| .q 1 <| .q 2 <| .q 3 <| .q 4 <| .a 5 <| .q 6 <| .q 7 <| .done) [] (by kernel_rfl) (by kernel_rfl) hS0 ?_
                repeat (refine tree_q (by rfl) (by rfl) (fun K hK => ?_); go_simp; refine hK _ ?_; clear hK K)
                refine tree_a (by rfl) (by rfl) (fun K hK => ?_)
                go_simp
                refine (single_any false x.t x.l x.b x.r _).mono ?_
                rintro e w8 ⟨rfl, hb8⟩
                have hb8' := bel_call (bel_drew (bel_refl w7)) hb8
                have st8 := st7.below hb8'
                have kx8 := kx7.below hb8'
                have kc8 := kc7.below hb8'
                have hl8 := hl7.below hb8'
                refine hK _ _ (held_in HSS.out ⟨st8.mem.top, kx8, kc8, by rw [st8.mem.look_t ⟨x.t, x.l⟩ HRS.out, HTC.out]; rfl⟩) ?_
                clear hK K
                repeat (refine tree_q (by rfl) (by rfl) (fun K hK => ?_); go_simp; refine hK _ ?_; clear hK K)
                refine tree_nil ?_
                clear q0 p0 q1 p1 q2 p2 q3 hS0 HSS
                clear heqm
                go_wp2_with fail
                obtain ⟨S, hSS⟩ : ∃ S : World → Prop, S = fun w' => Blk w' db 74 #[.map (some fm), .map (some tm), .pointer (some ⟨bb, 0, none⟩)] ∧ Blk w' gx 53 #[.bool false, .int .i64 x.t, .int .i64 x.l, .int .i64 x.b, .int .i64 x.r] ∧ Blk w' w.heap.size 32 #[.int .i64 row, .int .i64 col] ∧ (Instr.lookup 71 (.map (some tm)) (.agg #[.int .i64 x.t, .int .i64 x.l]) false).run Try.prog w' = .ok (.map (some g)) w' := ⟨_, rfl⟩
                have q0 := fun x => ((held_of hSS x).1).rd
                have p0 := fun x => ((held_of hSS x).1).lt
                have q1 := fun x => ((held_of hSS x).2.1).rd
                have p1 := fun x => ((held_of hSS x).2.1).lt
                have q2 := fun x => ((held_of hSS x).2.2.1).rd
                have p2 := fun x => ((held_of hSS x).2.2.1).lt
                have q3 := fun x => (held_of hSS x).2.2.2
                have HSS := Lib.hid hSS
                have hS0 : S w8.drew := held_in HSS.out ⟨st8.mem.top.drew, kx8.drew, kc8.drew, (by rw [(st8.below (bel_drew (bel_refl w8))).mem.look_t ⟨x.t, x.l⟩ HRS.out, HTG.out]; rfl)⟩
                haveI : Nonempty (Held S) := ⟨⟨_, hS0⟩⟩
                clear hSS
                refine wp_region_tree (S := S) 10 (.q 0 <| .q 1 <| .q 2 <| .q 3 <| .q 4 <| .q 7 <| .q 8 <| .a 5 <| .q 6 <| .a 9 <| .done) [] (by kernel_rfl) (by kernel_rfl) hS0 ?_
                repeat (refine tree_q (by rfl) (by rfl) (fun K hK => ?_); go_simp; refine hK _ ?_; clear hK K)
                refine tree_a (by rfl) (by rfl) (fun K hK => ?_)
                go_simp
                refine (single_any false x.t x.l x.b x.r _).mono ?_
                rintro e w9 ⟨rfl, hb9⟩
                have hb9' := bel_call (bel_drew (bel_refl w8)) hb9
                have st9 := st8.below hb9'
                have kx9 := kx8.below hb9'
                have kc9 := kc8.below hb9'
                have hl9 := hl8.below hb9'
                refine hK _ _ (held_in HSS.out ⟨st9.mem.top, kx9, kc9, by rw [st9.mem.look_t ⟨x.t, x.l⟩ HRS.out, HTG.out]; rfl⟩) ?_
                clear hK K
                repeat (refine tree_q (by rfl) (by rfl) (fun K hK => ?_); go_simp; refine hK _ ?_; clear hK K)
                have hsetB := st9.mem.grp' HTG.out
                obtain ⟨w10, hrunC, hsetC, hgC⟩ := hsetB.put_run law_cell Try.underlying76 cellV_inj (by unfold maxLen; omega) ⟨row, col⟩ HRC.out HKC.out
                have hrunC' : (Instr.mapUpdate 76 (.map (some g)) (.agg #[.int .i64 row, .int .i64 col]) (.agg #[])).run Try.prog w9 = .ok () w10 := hrunC
                clear hrunC
                refine tree_a (by rfl) (by rfl) (fun K hK => ?_)
                go_simp
                have kdC := st9.mem.top.grown hgC ((mp_set hsetB).ne st9.mem.top)
                have kcC := kc9.grown hgC ((mp_set hsetB).ne kc9)
                have kxC := kx9.grown hgC ((mp_set hsetB).ne kx9)
                have hlC := olM hgC (mp_set hsetB) hl9
                have stC := st9.group HTG.out hgC hsetC (Nat.le_succ _)
                refine hK _ _ (held_in HSS.out ⟨kdC, kxC, kcC, by rw [stC.mem.look_t ⟨x.t, x.l⟩ HRS.out, HTG.out]; rfl⟩) ?_
                clear hK K
                repeat (refine tree_q (by rfl) (by rfl) (fun K hK => ?_); go_simp; refine hK _ ?_; clear hK K)
                refine tree_nil ?_
                clear q0 p0 q1 p1 q2 p2 q3 hS0 HSS
                clear hrunC' hb9 hb9' kx9 kc9 kdC kxC
                go_wp2_with fail
                go_roundw
                case rel => exact ⟨k + 1, _, Oc, Ps2, _, _, by omega, by go_num, stC, by omega, HREL2, by rw [HDD.out]; exact hlC, kcC⟩
                case measure => simp [intOf]; omega
              | none =>
                have HTC := Lib.hid htc
                clear htc
                have heqm := fun F w => run_eql_map_nil (P := Try.prog) w 76 _ _ F Try.underlying76
                obtain ⟨S, hSS⟩ : ∃ S : World → Prop, S = fun w' => Blk w' db 74 #[.map (some fm), .map (some tm), .pointer (some ⟨bb, 0, none⟩)] ∧ Blk w' gx 53 #[.bool false, .int .i64 x.t, .int .i64 x.l, .int .i64 x.b, .int .i64 x.r] ∧ Blk w' w.heap.size 32 #[.int .i64 row, .int .i64 col] ∧ (Instr.lookup 71 (.map (some tm)) (.agg #[.int .i64 x.t, .int .i64 x.l]) false).run Try.prog w' = .ok (.map none) w' := ⟨_, rfl⟩
                have q0 := fun x => ((held_of hSS x).1).rd
                have p0 := fun x => ((held_of hSS x).1).lt
                have q1 := fun x => ((held_of hSS x).2.1).rd
                have p1 := fun x => ((held_of hSS x).2.1).lt
                have q2 := fun x => ((held_of hSS x).2.2.1).rd
                have p2 := fun x => ((held_of hSS x).2.2.1).lt
                have q3 := fun x => (held_of hSS x).2.2.2
                have HSS := Lib.hid hSS
                have hS0 : S w7.drew := held_in HSS.out ⟨st7.mem.top.drew, kx7.drew, kc7.drew, (by rw [(st7.below (bel_drew (bel_refl w7))).mem.look_t ⟨x.t, x.l⟩ HRS.out, HTC.out]; rfl)⟩
                haveI : Nonempty (Held S) := ⟨⟨_, hS0⟩⟩
                clear hSS
                refine wp_region_tree (S := S) 8 (.q 0 <| .q 1 <| .q 2 <| .q 3 <| .q 4 <| .a 5 <| .q 6 <| .q 7 <| .done) [] (by kernel_rfl) (by kernel_rfl) hS0 ?_
                repeat (refine tree_q (by rfl) (by rfl) (fun K hK => ?_); go_simp; refine hK _ ?_; clear hK K)
                refine tree_a (by rfl) (by rfl) (fun K hK => ?_)
                go_simp
                refine (single_any false x.t x.l x.b x.r _).mono ?_
                rintro e w8 ⟨rfl, hb8⟩
                have hb8' := bel_call (bel_drew (bel_refl w7)) hb8
                have st8 := st7.below hb8'
                have kx8 := kx7.below hb8'
                have kc8 := kc7.below hb8'
                have hl8 := hl7.below hb8'
                refine hK _ _ (held_in HSS.out ⟨st8.mem.top, kx8, kc8, by rw [st8.mem.look_t ⟨x.t, x.l⟩ HRS.out, HTC.out]; rfl⟩) ?_
                clear hK K
                repeat (refine tree_q (by rfl) (by rfl) (fun K hK => ?_); go_simp; refine hK _ ?_; clear hK K)
                refine tree_nil ?_
                clear q0 p0 q1 p1 q2 p2 q3 hS0 HSS
                clear heqm
                go_wp2_with fail
                obtain ⟨S, hSS⟩ : ∃ S : World → Prop, S = fun w' => Blk w' db 74 #[.map (some fm), .map (some tm), .pointer (some ⟨bb, 0, none⟩)] ∧ Blk w' gx 53 #[.bool false, .int .i64 x.t, .int .i64 x.l, .int .i64 x.b, .int .i64 x.r] ∧ Blk w' w.heap.size 32 #[.int .i64 row, .int .i64 col] := ⟨_, rfl⟩
                have q0 := fun x => ((held_of hSS x).1).rd
                have p0 := fun x => ((held_of hSS x).1).lt
                have q1 := fun x => ((held_of hSS x).2.1).rd
                have p1 := fun x => ((held_of hSS x).2.1).lt
                have q2 := fun x => ((held_of hSS x).2.2).rd
                have p2 := fun x => ((held_of hSS x).2.2).lt
                have HSS := Lib.hid hSS
                have hS0 : S w8.drew := held_in HSS.out ⟨st8.mem.top.drew, kx8.drew, kc8.drew⟩
                haveI : Nonempty (Held S) := ⟨⟨_, hS0⟩⟩
                clear hSS
                refine wp_region_tree (S := S) 8 (.q 0 <| .q 1 <| .q 2 <| .q 3 <| .q 4 <| .fork 5 (.a 6 <| .a 7 <| .done) 6 (.a 5 <| .a 7 <| .done)) [] (by kernel_rfl) (by kernel_rfl) hS0 ?_
                repeat (refine tree_q (by rfl) (by rfl) (fun K hK => ?_); go_simp; refine hK _ ?_; clear hK K)
                refine tree_f (by rfl) (by rfl) (by rfl) (by rfl) (fun K hK => ?_) (fun K hK => ?_)
                · go_simp
                  refine (single_any false x.t x.l x.b x.r _).mono ?_
                  rintro e w9 ⟨rfl, hb9⟩
                  have hb9' := bel_call (bel_drew (bel_refl w8)) hb9
                  have stA0 := st8.below hb9'
                  have kx9 := kx8.below hb9'
                  have kc9 := kc8.below hb9'
                  have hl9 := hl8.below hb9'
                  refine hK _ _ (held_in HSS.out ⟨stA0.mem.top, kx9, kc9⟩) ?_
                  clear hK K
                  refine tree_a (by rfl) (by rfl) (fun K hK => ?_)
                  have hmk := run_makeMap (P := Try.prog) 76 w9
                  go_simp
                  have stA := stA0.below (bel_alloc (bel_refl w9) (.map #[] 0))
                  have kxA := kx9.alloc (.map #[] 0)
                  have kcA := kc9.alloc (.map #[] 0)
                  have hlA := hl9.alloc (.map #[] 0)
                  have hmsA : CSet (w9.alloc (.map #[] 0)) w9.heap.size 0 [] := MSet.made Try.prog 32 cellV rngC w9
                  have hsz78 : w7.heap.size ≤ w9.heap.size := by have h1 := hb8'.size; have h2 := hb9'.size; omega
                  refine hK _ _ (held_in HSS.out ⟨stA.mem.top, kxA, kcA⟩) ?_
                  clear hK K hmk
                  have hgm2 : w9.heap.size = w9.heap.size := rfl
                  generalize hwA : w9.alloc (.map #[] 0) = wA at *
                  clear hwA
                  have hgo : ¬ ownD db fm tm Oc f2 tc w9.heap.size := fun hz => by have := stA0.mem.lt hz; omega
                  obtain ⟨wB, hrunB, hTB, hgB⟩ := stA.mem.tof.put_run law_cell Try.underlying71 cellV_inj (by unfold maxLen; omega) ⟨x.t, x.l⟩ HRS.out (.map (some w9.heap.size)) HKS.out
                  have hrunB' : (Instr.mapUpdate 71 (.map (some tm)) (.agg #[.int .i64 x.t, .int .i64 x.l]) (.map (some w9.heap.size))).run Try.prog wA = .ok () wB := hrunB
                  have stB := stA.tput HTC.out hgB hTB (hmsA.mono (Nat.zero_le _)) hgo (by have := stA0.fr.size; omega) (Nat.le_succ _)
                  have hmt := mp_fun stA.mem.tof
                  have kd11 := stA.mem.top.grown hgB (hmt.ne stA.mem.top)
                  have kc11 := kcA.grown hgB (hmt.ne kcA)
                  have kx11 := kxA.grown hgB (hmt.ne kxA)
                  have hl11 := olM hgB hmt hlA
                  clear hrunB
                  refine tree_a (by rfl) (by rfl) (fun K hK => ?_)
                  go_simp
                  refine hK _ _ (held_in HSS.out ⟨kd11, kx11, kc11⟩) ?_
                  clear hK K
                  refine tree_nil ?_
                  have st11 := stB
                  clear q0 p0 q1 p1 q2 p2 hS0 HSS hrunB' kxA kcA hlA stB
                  obtain ⟨tc2, htc2⟩ : ∃ tc2 : Cl → Option Value, tc2 = (fun q => if q = (⟨x.t, x.l⟩ : Cl) then some (.map (some w9.heap.size)) else tc q) := ⟨_, rfl⟩
                  rw [← htc2] at st11
                  have HTG : Hid (tc2 ⟨x.t, x.l⟩ = some (.map (some w9.heap.size))) := Lib.hid (by rw [htc2]; exact if_pos rfl)
                  clear htc2
                  generalize hwz : wB = w11 at *
                  clear hwz
                  generalize w9.heap.size = g at *
                  go_wp2_with fail
                  obtain ⟨S, hSS⟩ : ∃ S : World → Prop, S = fun w' => Blk w' db 74 #[.map (some fm), .map (some tm), .pointer (some ⟨bb, 0, none⟩)] ∧ Blk w' gx 53 #[.bool false, .int .i64 x.t, .int .i64 x.l, .int .i64 x.b, .int .i64 x.r] ∧ Blk w' w.heap.size 32 #[.int .i64 row, .int .i64 col] ∧ (Instr.lookup 71 (.map (some tm)) (.agg #[.int .i64 x.t, .int .i64 x.l]) false).run Try.prog w' = .ok (.map (some g)) w' := ⟨_, rfl⟩
                  have q0 := fun x => ((held_of hSS x).1).rd
                  have p0 := fun x => ((held_of hSS x).1).lt
                  have q1 := fun x => ((held_of hSS x).2.1).rd
                  have p1 := fun x => ((held_of hSS x).2.1).lt
                  have q2 := fun x => ((held_of hSS x).2.2.1).rd
                  have p2 := fun x => ((held_of hSS x).2.2.1).lt
                  have q3 := fun x => (held_of hSS x).2.2.2
                  have HSS := Lib.hid hSS
                  have hS0 : S w11.drew := held_in HSS.out ⟨st11.mem.top.drew, kx11.drew, kc11.drew, (by rw [(st11.below (bel_drew (bel_refl w11))).mem.look_t ⟨x.t, x.l⟩ HRS.out, HTG.out]; rfl)⟩
                  haveI : Nonempty (Held S) := ⟨⟨_, hS0⟩⟩
                  clear hSS
                  refine wp_region_tree (S := S) 10 (.q 0 <| .q 1 <| .q 2 <| .q 3 <| .q 4 <| .q 7 <| .q 8 <| .a 5 <| .q 6 <| .a 9 <| .done) [] (by kernel_rfl) (by kernel_rfl) hS0 ?_
                  repeat (refine tree_q (by rfl) (by rfl) (fun K hK => ?_); go_simp; refine hK _ ?_; clear hK K)
                  refine tree_a (by rfl) (by rfl) (fun K hK => ?_)
                  go_simp
                  refine (single_any false x.t x.l x.b x.r _).mono ?_
                  rintro e w12 ⟨rfl, hb12⟩
                  have hb12' := bel_call (bel_drew (bel_refl w11)) hb12
                  have st12 := st11.below hb12'
                  have kx12 := kx11.below hb12'
                  have kc12 := kc11.below hb12'
                  have hl12 := hl11.below hb12'
                  refine hK _ _ (held_in HSS.out ⟨st12.mem.top, kx12, kc12, by rw [st12.mem.look_t ⟨x.t, x.l⟩ HRS.out, HTG.out]; rfl⟩) ?_
                  clear hK K
                  repeat (refine tree_q (by rfl) (by rfl) (fun K hK => ?_); go_simp; refine hK _ ?_; clear hK K)
                  have hsetB := st12.mem.grp' HTG.out
                  obtain ⟨w13, hrunC, hsetC, hgC⟩ := hsetB.put_run law_cell Try.underlying76 cellV_inj (by unfold maxLen; omega) ⟨row, col⟩ HRC.out HKC.out
                  have hrunC' : (Instr.mapUpdate 76 (.map (some g)) (.agg #[.int .i64 row, .int .i64 col]) (.agg #[])).run Try.prog w12 = .ok () w13 := hrunC
                  clear hrunC
                  refine tree_a (by rfl) (by rfl) (fun K hK => ?_)
                  go_simp
                  have kdC := st12.mem.top.grown hgC ((mp_set hsetB).ne st12.mem.top)
                  have kcC := kc12.grown hgC ((mp_set hsetB).ne kc12)
                  have kxC := kx12.grown hgC ((mp_set hsetB).ne kx12)
                  have hlC := olM hgC (mp_set hsetB) hl12
                  have stC := st12.group HTG.out hgC hsetC (Nat.le_succ _)
                  refine hK _ _ (held_in HSS.out ⟨kdC, kxC, kcC, by rw [stC.mem.look_t ⟨x.t, x.l⟩ HRS.out, HTG.out]; rfl⟩) ?_
                  clear hK K
                  repeat (refine tree_q (by rfl) (by rfl) (fun K hK => ?_); go_simp; refine hK _ ?_; clear hK K)
                  refine tree_nil ?_
                  clear q0 p0 q1 p1 q2 p2 q3 hS0 HSS
                  clear hrunC' hb12 hb12' kx12 kc12 kdC kxC
                  go_wp2_with fail
                  go_roundw
                  case rel => exact ⟨k + 1, _, Oc, Ps2, _, _, by omega, by go_num, stC, by omega, HREL2, by rw [HDD.out]; exact hlC, kcC⟩
                  case measure => simp [intOf]; omega
                · go_simp
                  have hmk := run_makeMap (P := Try.prog) 76 w8.drew
                  try go_simp
                  have stA0 := st8.below (bel_drew (bel_refl w8))
                  have stA1 := stA0.below (bel_alloc (bel_refl w8.drew) (.map #[] 0))
                  have kx9 := kx8.drew.alloc (.map #[] 0)
                  have kc9 := kc8.drew.alloc (.map #[] 0)
                  have hl9 := hl8.drew.alloc (.map #[] 0)
                  have hms9 : CSet (w8.drew.alloc (.map #[] 0)) w8.drew.heap.size 0 [] := MSet.made Try.prog 32 cellV rngC w8.drew
                  have hsz78 : w7.heap.size ≤ w8.drew.heap.size := hb8'.size
                  refine hK _ _ (held_in HSS.out ⟨stA1.mem.top, kx9, kc9⟩) ?_
                  clear hK K hmk
                  refine tree_a (by rfl) (by rfl) (fun K hK => ?_)
                  go_simp
                  refine (single_any false x.t x.l x.b x.r _).mono ?_
                  rintro e w9 ⟨rfl, hb9⟩
                  have stA := stA1.below hb9
                  have kxA := kx9.below hb9
                  have kcA := kc9.below hb9
                  have hlA := hl9.below hb9
                  have hmsA : CSet w9 w8.heap.size 0 [] := hms9.below hb9
                  refine hK _ _ (held_in HSS.out ⟨stA.mem.top, kxA, kcA⟩) ?_
                  clear hK K
                  have hgm2 : w8.drew.heap.size = w8.heap.size := rfl
                  generalize hwA : w9 = wA at *
                  clear hwA hms9
                  have hgo : ¬ ownD db fm tm Oc f2 tc w8.heap.size := fun hz => by have := stA0.mem.lt hz; omega
                  obtain ⟨wB, hrunB, hTB, hgB⟩ := stA.mem.tof.put_run law_cell Try.underlying71 cellV_inj (by unfold maxLen; omega) ⟨x.t, x.l⟩ HRS.out (.map (some w8.heap.size)) HKS.out
                  have hrunB' : (Instr.mapUpdate 71 (.map (some tm)) (.agg #[.int .i64 x.t, .int .i64 x.l]) (.map (some w8.heap.size))).run Try.prog wA = .ok () wB := hrunB
                  have stB := stA.tput HTC.out hgB hTB (hmsA.mono (Nat.zero_le _)) hgo (by have := stA0.fr.size; omega) (Nat.le_succ _)
                  have hmt := mp_fun stA.mem.tof
                  have kd11 := stA.mem.top.grown hgB (hmt.ne stA.mem.top)
                  have kc11 := kcA.grown hgB (hmt.ne kcA)
                  have kx11 := kxA.grown hgB (hmt.ne kxA)
                  have hl11 := olM hgB hmt hlA
                  clear hrunB
                  refine tree_a (by rfl) (by rfl) (fun K hK => ?_)
                  go_simp
                  refine hK _ _ (held_in HSS.out ⟨kd11, kx11, kc11⟩) ?_
                  clear hK K
                  refine tree_nil ?_
                  have st11 := stB
                  clear q0 p0 q1 p1 q2 p2 hS0 HSS hrunB' kxA kcA hlA stB
                  obtain ⟨tc2, htc2⟩ : ∃ tc2 : Cl → Option Value, tc2 = (fun q => if q = (⟨x.t, x.l⟩ : Cl) then some (.map (some w8.heap.size)) else tc q) := ⟨_, rfl⟩
                  rw [← htc2] at st11
                  have HTG : Hid (tc2 ⟨x.t, x.l⟩ = some (.map (some w8.heap.size))) := Lib.hid (by rw [htc2]; exact if_pos rfl)
                  clear htc2
                  generalize hwz : wB = w11 at *
                  clear hwz
                  generalize w8.heap.size = g at *
                  go_wp2_with fail
                  obtain ⟨S, hSS⟩ : ∃ S : World → Prop, S = fun w' => Blk w' db 74 #[.map (some fm), .map (some tm), .pointer (some ⟨bb, 0, none⟩)] ∧ Blk w' gx 53 #[.bool false, .int .i64 x.t, .int .i64 x.l, .int .i64 x.b, .int .i64 x.r] ∧ Blk w' w.heap.size 32 #[.int .i64 row, .int .i64 col] ∧ (Instr.lookup 71 (.map (some tm)) (.agg #[.int .i64 x.t, .int .i64 x.l]) false).run Try.prog w' = .ok (.map (some g)) w' := ⟨_, rfl⟩
                  have q0 := fun x => ((held_of hSS x).1).rd
                  have p0 := fun x => ((held_of hSS x).1).lt
                  have q1 := fun x => ((held_of hSS x).2.1).rd
                  have p1 := fun x => ((held_of hSS x).2.1).lt
                  have q2 := fun x => ((held_of hSS x).2.2.1).rd
                  have p2 := fun x => ((held_of hSS x).2.2.1).lt
                  have q3 := fun x => (held_of hSS x).2.2.2
                  have HSS := Lib.hid hSS
                  have hS0 : S w11.drew := held_in HSS.out ⟨st11.mem.top.drew, kx11.drew, kc11.drew, (by rw [(st11.below (bel_drew (bel_refl w11))).mem.look_t ⟨x.t, x.l⟩ HRS.out, HTG.out]; rfl)⟩
                  haveI : Nonempty (Held S) := ⟨⟨_, hS0⟩⟩
                  clear hSS
                  refine wp_region_tree (S := S) 10 (.q 0 <| .q 1 <| .q 2 <| .q 3 <| .q 4 <| .q 7 <| .q 8 <| .a 5 <| .q 6 <| .a 9 <| .done) [] (by kernel_rfl) (by kernel_rfl) hS0 ?_
                  repeat (refine tree_q (by rfl) (by rfl) (fun K hK => ?_); go_simp; refine hK _ ?_; clear hK K)
                  refine tree_a (by rfl) (by rfl) (fun K hK => ?_)
                  go_simp
                  refine (single_any false x.t x.l x.b x.r _).mono ?_
                  rintro e w12 ⟨rfl, hb12⟩
                  have hb12' := bel_call (bel_drew (bel_refl w11)) hb12
                  have st12 := st11.below hb12'
                  have kx12 := kx11.below hb12'
                  have kc12 := kc11.below hb12'
                  have hl12 := hl11.below hb12'
                  refine hK _ _ (held_in HSS.out ⟨st12.mem.top, kx12, kc12, by rw [st12.mem.look_t ⟨x.t, x.l⟩ HRS.out, HTG.out]; rfl⟩) ?_
                  clear hK K
                  repeat (refine tree_q (by rfl) (by rfl) (fun K hK => ?_); go_simp; refine hK _ ?_; clear hK K)
                  have hsetB := st12.mem.grp' HTG.out
                  obtain ⟨w13, hrunC, hsetC, hgC⟩ := hsetB.put_run law_cell Try.underlying76 cellV_inj (by unfold maxLen; omega) ⟨row, col⟩ HRC.out HKC.out
                  have hrunC' : (Instr.mapUpdate 76 (.map (some g)) (.agg #[.int .i64 row, .int .i64 col]) (.agg #[])).run Try.prog w12 = .ok () w13 := hrunC
                  clear hrunC
                  refine tree_a (by rfl) (by rfl) (fun K hK => ?_)
                  go_simp
                  have kdC := st12.mem.top.grown hgC ((mp_set hsetB).ne st12.mem.top)
                  have kcC := kc12.grown hgC ((mp_set hsetB).ne kc12)
                  have kxC := kx12.grown hgC ((mp_set hsetB).ne kx12)
                  have hlC := olM hgC (mp_set hsetB) hl12
                  have stC := st12.group HTG.out hgC hsetC (Nat.le_succ _)
                  refine hK _ _ (held_in HSS.out ⟨kdC, kxC, kcC, by rw [stC.mem.look_t ⟨x.t, x.l⟩ HRS.out, HTG.out]; rfl⟩) ?_
                  clear hK K
                  repeat (refine tree_q (by rfl) (by rfl) (fun K hK => ?_); go_simp; refine hK _ ?_; clear hK K)
                  refine tree_nil ?_
                  clear q0 p0 q1 p1 q2 p2 q3 hS0 HSS
                  clear hrunC' hb12 hb12' kx12 kc12 kdC kxC
                  go_wp2_with fail
                  go_roundw
                  case rel => exact ⟨k + 1, _, Oc, Ps2, _, _, by omega, by go_num, stC, by omega, HREL2, by rw [HDD.out]; exact hlC, kcC⟩
                  case measure => simp [intOf]; omega
        obtain rfl : k = L.length := by omega
        rw [List.take_length] at HREL hl
        have i1 : ¬ ((L.length : Int) < (L.length : Int)) := by omega
        have hF : setF E ⟨row, col⟩ L = upE E ⟨row, col⟩ (ddp L) := if_pos HE.out
        obtain ⟨A1, cap1, rfl, hc1, hc2, hl1, hA1⟩ := hl.see
        clear hkl
        by_cases h0 : (ddp L).length = 0
        · have h00 : ddp L = [] := List.length_eq_zero_iff.1 h0
          have HF : Hid (setF E ⟨row, col⟩ L = upE E ⟨row, col⟩ []) := Lib.hid (by rw [hF, h00])
          rw [h00] at HREL
          have gz : ¬ (0 : Int) < ((ddp L).length : Int) := by omega
          have gz2 : ¬ 0 < (ddp L).length := by omega
          clear h00 hF h0
          go_wp2_with fail
          go_ret
          refine ⟨Oc, Ps2, f2, tc, Wh2, by rw [HE.out]; rfl, ?_, by rw [HF.out]; exact HREL.out, st.fr, st.own⟩
          rw [HF.out]
          exact (st.mem.mono (by omega)).ext (fun q => rfl)
        · obtain ⟨g1, rfl, hg1, hg2⟩ : ∃ g, A1 = some ⟨g, 0, none⟩ ∧ w.heap.size ≤ g ∧ g < wr.heap.size := by
            rcases hA1 with rfl | ⟨g, rfl, h1, h2⟩
            · exact absurd (ol_none hl).1 h0
            · exact ⟨g, rfl, h1, h2⟩
          have HF := Lib.hid hF
          have gz : (0 : Int) < ((ddp L).length : Int) := by omega
          have gz2 : 0 < (ddp L).length := by omega
          clear hF h0 hA1
          go_wp2_with fail
          obtain ⟨w9, hrun9, hT9, hg9⟩ := (st.below (bel_drew (bel_refl wr))).mem.frm.put_run law_cell Try.underlying70 cellV_inj (by unfold maxLen; omega) ⟨row, col⟩ HRC.out (.slice (some ⟨g1, 0, none⟩) (ddp L).length cap1) HKC.out
          have hrun9' : (Instr.mapUpdate 70 (.map (some fm)) (.agg #[.int .i64 row, .int .i64 col]) (.slice (some ⟨g1, 0, none⟩) (ddp L).length cap1)).run Try.prog wr.drew = .ok () w9 := hrun9
          have hmf := mp_fun (st.below (bel_drew (bel_refl wr))).mem.frm
          have kc9 := kc.drew.grown hg9 (hmf.ne kc.drew)
          have st9 := (st.below (bel_drew (bel_refl wr))).fput hg9 hT9 (hl.drew.low (Nat.zero_le _)) hg1 (Nat.le_succ _)
          clear hrun9
          obtain ⟨S, hSS⟩ : ∃ S : World → Prop, S = fun w' => Blk w' db 74 #[.map (some fm), .map (some tm), .pointer (some ⟨bb, 0, none⟩)] ∧ Blk w' w.heap.size 32 #[.int .i64 row, .int .i64 col] := ⟨_, rfl⟩
          have q0 := fun x => ((held_of hSS x).1).rd
          have p0 := fun x => ((held_of hSS x).1).lt
          have q1 := fun x => ((held_of hSS x).2).rd
          have p1 := fun x => ((held_of hSS x).2).lt
          have HSS := Lib.hid hSS
          have hS0 : S wr.drew := held_in HSS.out ⟨st.mem.top.drew, kc.drew⟩
          haveI : Nonempty (Held S) := ⟨⟨_, hS0⟩⟩
          clear hSS
          refine wp_region_tree (S := S) 7 (.q 0 <| .q 1 <| .q 2 <| .q 3 <| .q 4 <| .q 5 <| .a 6 <| .done) [] (by kernel_rfl) (by kernel_rfl) hS0 ?_
          repeat (refine tree_q (by rfl) (by rfl) (fun K hK => ?_); go_simp; refine hK _ ?_; clear hK K)
          refine tree_a (by rfl) (by rfl) (fun K hK => ?_)
          go_simp
          refine hK _ _ (held_in HSS.out ⟨st9.mem.top, kc9⟩) ?_
          clear hK K
          repeat (refine tree_q (by rfl) (by rfl) (fun K hK => ?_); go_simp; refine hK _ ?_; clear hK K)
          refine tree_nil ?_
          clear q0 p0 q1 p1 hS0 HSS
          clear hrun9'
          go_wp2_with fail
          go_ret
          refine ⟨Oc, Ps2, _, tc, Wh2, by rw [HE.out]; rfl, ?_, by rw [HF.out]; exact HREL.out, st9.fr, st9.own⟩
          rw [HF.out]
          refine (st9.mem.mono (by omega)).ext (fun q => ?_)
          unfold upE
          by_cases e : q = ⟨row, col⟩
          · rw [if_pos e, if_pos e]
          · rw [if_neg e, if_neg e, if_neg e]
end Go.Proofs.Ytdionganlmnlkaa

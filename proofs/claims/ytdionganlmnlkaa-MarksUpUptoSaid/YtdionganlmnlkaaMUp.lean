/-
  The walk of MarksUp. Conditions: the deeds lie as said; they hold no more than the bound.
-/
import Derived.Test.YtdionganlmnlkaaMLoop2
import Derived.Test.YtdionganlmnlkaaGp
namespace Go.Proofs.Ytdionganlmnlkaa
open Go.ChangeShapes Go.WideShapes Go.ChangeAt Go.RowKit Go.Deep
attribute [local go_sem] Cls

set_option maxHeartbeats 25600000 in
set_option maxRecDepth 100000 in
theorem marksUp_walk (A : Option Addr) (cap : Nat) (D : List DdV) (w : World) (hS : DeedsAt w A D) (htot : tot D ≤ 1048576) :
    Calls Try.prog 3 #[.slice A D.length cap] w fun e w' => e = .returned (.bool true) ∧ Below w.heap.size w w' := by
  have hDl := tot_len D
  go_enter Try.func3, Try.ntmps3
  go_wp2_with fail
  refine (begin_any _).mono ?_
  rintro e w1 ⟨bb, db, mb, sm, yb, rb, col, rfl, hS0, hlow0, hb1⟩
  have h0 := li_new hb1 hS0 hlow0
  have qb := hS0.top.rd
  have lb := hS0.top.lt
  clear hS0 hlow0 hb1
  go_wp2_with fail
  clear qb lb
  go_loopw [4] (fun s wr => ∃ (k : Nat) (col : Nat → Nat) (pk : Int) (f : Cl → Option Int) (Es : List Ed), k ≤ D.length ∧ s = .int .i64 k ∧ LI w wr bb db mb sm yb rb (tot (D.take k)) col pk f Es ∧ Hid (UpC Es f)) (fun s _ => D.length - (intOf s).toNat)
  case atStart => exact ⟨0, col, 0, _, [], Nat.zero_le _, rfl, h0, Lib.hid (fun y x h _ => absurd rfl h)⟩
  case round =>
    clear h0
    obtain ⟨k, col, pk, f, Es, hk, rfl, h, HUP⟩ := hrel
    by_cases hkl : k < D.length
    · skip
      obtain ⟨d, hd⟩ : ∃ d, D[k]? = some d := ⟨_, List.getElem?_eq_getElem hkl⟩
      obtain ⟨b1, o1, hA1, hb1, ⟨z0, z1, z2, z3, z4⟩, hLi, hrcd, hkd⟩ := hS k d hd
      subst hA1
      have c0 := (h.bel.cell hb1).trans z0
      have c1 := (h.bel.cell hb1).trans z1
      have c2 := (h.bel.cell hb1).trans z2
      have c3 := (h.bel.cell hb1).trans z3
      have c4 := (h.bel.cell hb1).trans z4
      have htk := tot_take hd
      have htl := tot_le D (k + 1)
      have hT : tot (D.take k) + (d.L.length + 1) ≤ 1048576 := by omega
      have i0 : (0 : Int) ≤ (k : Int) := by omega
      have i1 : (k : Int) < (D.length : Int) := by omega
      have HTK := Lib.hid htk
      clear hd htk htl z1 z2 z3 z4
      go_upto_region 8 with fail
      have hBx := bel_alloc (bel_refl wr) (.cells #[.int .i64 d.kd, .int .i64 d.row, .int .i64 d.col, .slice d.A d.L.length d.cap, .bool d.fm] 35)
      have kb := h.bs.box hBx (Blk.new wr rfl 35 #[.int .i64 d.kd, .int .i64 d.row, .int .i64 d.col, .slice d.A d.L.length d.cap, .bool d.fm]) (Nat.le_refl _)
      have hgx := h.bel.size
      replace h := h.below hBx
      generalize hwz : wr.alloc (.cells #[.int .i64 d.kd, .int .i64 d.row, .int .i64 d.col, .slice d.A d.L.length d.cap, .bool d.fm] 35) = w2 at hBx kb h ⊢
      generalize wr.heap.size = gx at kb hgx ⊢
      generalize d.fm = fm0 at kb
      clear hwz hBx c0 c1 c2 c3 c4 z0
      have qx := kb.1.rd
      have lx := kb.1.lt
      go_wp2_with fail
      refine (pick_any d.kd _ hkd).mono ?_
      rintro e w3 ⟨rfl, rfl⟩
      obtain ⟨q, hq⟩ : ∃ q, q = pk4 d.kd := ⟨_, rfl⟩
      have hin := pk4_in d.kd
      rw [← hq] at hin ⊢
      have HQ := Lib.hid hq
      clear hq qx lx
      rcases (show q = 0 ∨ q = 1 ∨ q = 2 ∨ q = 3 by omega) with rfl | rfl | rfl | rfl
      · cases fm0 with
        | true =>
          have kb : Bx _ col gx 35 #[.int .i64 d.kd, .int .i64 d.row, .int .i64 d.col, .slice d.A d.L.length d.cap, .bool true] := kb
          have qx := kb.1.rd
          have lx := kb.1.lt
          have zx := kb.1.fz
          go_upto_region 11 with fail
          replace h := h.poke (g := gx) kb.2 hgx 4 (.bool true)
          replace kb := kb.put 4 (.bool true)
          generalize hwz : w2.setCell ⟨gx, 4, none⟩ (.bool true) = w4 at h kb ⊢
          clear hwz qx lx zx
          have kb : Bx _ col gx 35 #[.int .i64 d.kd, .int .i64 d.row, .int .i64 d.col, .slice d.A d.L.length d.cap, .bool true] := kb
          have qx := kb.1.rd
          have lx := kb.1.lt
          have zx := kb.1.fz
          go_wp2_with fail
          refine (pick_any d.kd _ hkd).mono ?_
          rintro e wp ⟨rfl, rfl⟩
          rw [show pk4 d.kd = 0 from HQ.out.symm]
          clear qx lx zx
          go_upto_region 13 with fail
          obtain ⟨S, hSS⟩ : ∃ S : World → Prop, S = fun W => Blk W bb 30 #[.pointer (some ⟨db, 0, none⟩), .pointer (some ⟨mb, 0, none⟩), .pointer (some ⟨yb, 0, none⟩), .pointer (some ⟨rb, 0, none⟩)] ∧ Blk W gx 35 #[.int .i64 d.kd, .int .i64 d.row, .int .i64 d.col, .slice d.A d.L.length d.cap, .bool true] := ⟨_, rfl⟩
          have q0 := fun x => (held_of hSS x).1.rd
          have l0 := fun x => (held_of hSS x).1.lt
          have q1 := fun x => (held_of hSS x).2.rd
          have HSS := Lib.hid hSS
          have HCL : Hid (∀ W', Blk W' bb 30 #[.pointer (some ⟨db, 0, none⟩), .pointer (some ⟨mb, 0, none⟩), .pointer (some ⟨yb, 0, none⟩), .pointer (some ⟨rb, 0, none⟩)] ∧ Blk W' gx 35 #[.int .i64 d.kd, .int .i64 d.row, .int .i64 d.col, .slice d.A d.L.length d.cap, .bool true] → S W') := Lib.hid (fun W' hB => held_in HSS.out hB)
          have hS0 : S w4.drew := HCL.out _ (⟨h.bs.top.drew, kb.1.drew⟩)
          haveI : Nonempty (Held S) := ⟨⟨_, hS0⟩⟩
          clear hSS
          refine wp_region_tree (S := S) 23 (.q 0 <| .q 1 <| .a 2 <| .q 3 <| .q 4 <| .q 5 <| .q 6 <| .a 7 <| .q 8 <| .q 9 <| .q 10 <| .q 11 <| .q 12 <| .q 13 <| .q 14 <| .q 15 <| .q 16 <| .q 17 <| .a 18 <| .q 19 <| .q 20 <| .q 21 <| .q 22 <| .done) [] (by kernel_rfl) (by kernel_rfl) hS0 ?_
          repeat (first | (refine tree_q (by rfl) (by rfl) (fun K hK => ?_); go_simp; refine hK _ ?_; clear hK K) | (refine tree_qg (by rfl) (by rfl) (by rfl) (fun K hK => ?_); go_simp; refine hK _ ?_; clear hK K) | (refine tree_qn (by rfl) (by rfl) (by rfl) rfl ?_; go_simp))
          refine tree_a (by rfl) (by rfl) (fun K hK => ?_)
          go_simp
          refine (pick_any d.kd _ hkd).mono ?_
          rintro e wp ⟨rfl, rfl⟩
          rw [show pk4 d.kd = 0 from HQ.out.symm]
          refine hK _ _ (HCL.out _ (⟨h.bs.top.drew, kb.1.drew⟩)) ?_
          clear hK K
          repeat (first | (refine tree_q (by rfl) (by rfl) (fun K hK => ?_); go_simp; refine hK _ ?_; clear hK K) | (refine tree_qg (by rfl) (by rfl) (by rfl) (fun K hK => ?_); go_simp; refine hK _ ?_; clear hK K) | (refine tree_qn (by rfl) (by rfl) (by rfl) rfl ?_; go_simp))
          refine tree_ag (by rfl) (by rfl) (by rfl) (fun K hK => ?_)
          go_simp
          refine (pick_any d.kd _ hkd).mono ?_
          rintro e wp ⟨rfl, rfl⟩
          rw [show pk4 d.kd = 0 from HQ.out.symm]
          refine hK _ _ (HCL.out _ (⟨h.bs.top.drew, kb.1.drew⟩)) ?_
          clear hK K
          repeat (first | (refine tree_q (by rfl) (by rfl) (fun K hK => ?_); go_simp; refine hK _ ?_; clear hK K) | (refine tree_qg (by rfl) (by rfl) (by rfl) (fun K hK => ?_); go_simp; refine hK _ ?_; clear hK K) | (refine tree_qn (by rfl) (by rfl) (by rfl) rfl ?_; go_simp))
          refine tree_ag (by rfl) (by rfl) (by rfl) (fun K hK => ?_)
          go_simp
          refine (li_set d.row d.col d.L d.A d.cap (h.below (bel_drew (bel_refl w4))) hLi hT).mono ?_
          rintro e w6 ⟨rfl, col6, h6, x6⟩
          have kb6 := (kb.below (bel_drew (bel_refl w4))).ext x6
          obtain ⟨er, her⟩ : ∃ er, er = setE (⟨d.row, d.col⟩ : Cl) d.L := ⟨_, rfl⟩
          rw [← her]
          have HER := Lib.hid her
          clear her
          refine hK _ _ (HCL.out _ (⟨h6.bs.top, kb6.1⟩)) ?_
          clear hK K
          by_cases h0 : er = 0
          · subst h0
            repeat (first | (refine tree_q (by rfl) (by rfl) (fun K hK => ?_); go_simp; refine hK _ ?_; clear hK K) | (refine tree_qg (by rfl) (by rfl) (by rfl) (fun K hK => ?_); go_simp; refine hK _ ?_; clear hK K) | (refine tree_qn (by rfl) (by rfl) (by rfl) rfl ?_; go_simp))
            refine tree_nil ?_
            clear q0 l0 q1 hS0 HSS HCL
            have kb := kb6
            have qx := kb.1.rd
            have lx := kb.1.lt
            have zx := kb.1.fz
            go_wp2_with fail
            refine (pick_any d.kd _ hkd).mono ?_
            rintro e wp ⟨rfl, rfl⟩
            rw [show pk4 d.kd = 0 from HQ.out.symm]
            go_wp2_with fail
            refine (li_does2 d.kd d.row d.col d.L d.A d.cap true h6 h.bs.srt HQ.out.symm hLi hrcd hkd hT).mono ?_
            rintro e w9 ⟨rfl, col9, pk9, f9, h9, x9, htm⟩
            have hsr := h.bs.srt
            obtain ⟨hup, hdue⟩ := up_touch h9.bs.srt h9.bs.okE HUP.out (fun _ _ hn hx => drc_set hsr hx hn) (fun hc => rfl) (fun hm => setD_nomay hm) htm
            have HUP9 := Lib.hid hup
            have HDUE := Lib.hid hdue
            have kb9 := kb.ext x9
            obtain ⟨Es9, hEs9⟩ : ∃ Es9, Es9 = setD (⟨d.row, d.col⟩ : Cl) d.L Es := ⟨_, rfl⟩
            rw [← hEs9] at h9 HUP9 HDUE
            clear qx lx zx htm hup hdue x9 h kb kb6 h6 x6 hsr hEs9
            go_wp2_with fail
            have hl9 := h9.len
            have hE20 : Es9.length ≤ 1048576 := by omega
            have hE56 : (Es9.length + 1) * 56 ≤ 140737488355328 := by omega
            rw [← HTK.out] at h9
            obtain ⟨Oy, hry, _⟩ := h9.bs.rs
            have HSRT := Lib.hid h9.bs.srt
            have qx := kb9.1.rd
            have lx := kb9.1.lt
            have qb := h9.bs.top.rd
            have lb := h9.bs.top.lt
            go_wp2_with fail
            go_still_tail 6, (by kernel_rfl)
            go_wp2_with fail
            refine (rs_direct yb Oy Es9 d.row d.col _ (hry.below (bel_drew (bel_refl _))) hE56).mono ?_
            rintro e w10 ⟨v10, rfl, hO10, hb10⟩
            replace h9 := h9.below (bel_call (bel_drew (bel_refl _)) hb10)
            replace kb9 := kb9.below (bel_call (bel_drew (bel_refl _)) hb10)
            replace hry := hry.below (bel_call (bel_drew (bel_refl _)) hb10)
            obtain ⟨A10, c10, rfl, _, hc10, hLi10, _⟩ := hO10.see
            have HDL : Hid (∀ y, y ∈ drs d.row d.col Es9 → f9 y = some 2) := Lib.hid (fun y hy => HDUE.out y hy)
            have HRG : Hid (∀ y, y ∈ drs d.row d.col Es9 → rngC y) := Lib.hid (fun y hy => by
              obtain ⟨p, hp, rfl⟩ := List.mem_map.1 (drc_mem (y := ⟨d.row, d.col⟩) HSRT.out hy)
              exact rngC_of_may (h9.bs.okE p hp).2)
            have hdl10 : (drs d.row d.col Es9).length ≤ Es9.length := drc_len Es9 ⟨d.row, d.col⟩
            generalize drs d.row d.col Es9 = L10 at hLi10 HDL HRG hdl10 ⊢
            have hLi10' := hLi10
            clear qx lx qb lb hb10 hO10 hLi10
            have hj := bel_refl w10
            go_wp2_with fail
            go_loopw [8] (fun s wr => ∃ k2 : Nat, k2 ≤ L10.length ∧ s = .int .i64 k2 ∧ Below w10.heap.size w10 wr) (fun s _ => L10.length - (intOf s).toNat)
            case atStart => exact ⟨0, Nat.zero_le _, rfl, hj⟩
            case round =>
              obtain ⟨k2, hk2, rfl, hj2⟩ := hrel
              clear hj
              by_cases hkl2 : k2 < L10.length
              · obtain ⟨x, hx⟩ : ∃ x, L10[k2]? = some x := ⟨_, List.getElem?_eq_getElem hkl2⟩
                obtain ⟨g, off, hAe, hg, c0, c1⟩ := cl_at (hLi10'.below hj2) hx
                subst hAe
                have HXM : Hid (x ∈ L10) := Lib.hid (List.mem_of_getElem? hx)
                have HRX : Hid (rngC ⟨x.row, x.col⟩) := Lib.hid (HRG.out x HXM.out)
                have HFX : Hid (f9 (⟨x.row, x.col⟩ : Cl) = some 2) := Lib.hid (HDL.out x HXM.out)
                have HMM := Lib.hid (h9.bs.mm.below hj2)
                have HTOP := Lib.hid (h9.bs.top.below hj2)
                have HG := Lib.hid hg
                have HC0 := Lib.hid c0
                have HC1 := Lib.hid c1
                have i0 : (0 : Int) ≤ (k2 : Int) := by omega
                have i1 : (k2 : Int) < (L10.length : Int) := by omega
                clear hx hg c0 c1
                go_wp2_with fail
                obtain ⟨S, hSS⟩ : ∃ S : World → Prop, S = fun W => Blk W bb 30 #[.pointer (some ⟨db, 0, none⟩), .pointer (some ⟨mb, 0, none⟩), .pointer (some ⟨yb, 0, none⟩), .pointer (some ⟨rb, 0, none⟩)] ∧ W.cell? ⟨g, off + k2 * 2, none⟩ = some (.int .i64 x.row) ∧ W.cell? ⟨g, off + k2 * 2 + 1, none⟩ = some (.int .i64 x.col) := ⟨_, rfl⟩
                have q0 := fun x => (held_of hSS x).1.rd
                have l0 := fun x => (held_of hSS x).1.lt
                have q1 := fun x => (held_of hSS x).2.1
                have q2 := fun x => (held_of hSS x).2.2
                have HSS := Lib.hid hSS
                have HCL : Hid (∀ W', Below wr.heap.size wr W' → S W') := Lib.hid (fun W' hB => held_in HSS.out ⟨HTOP.out.below hB, (hB.cell HG.out).trans HC0.out, (hB.cell HG.out).trans HC1.out⟩)
                have hS0 : S wr.drew := HCL.out _ (bel_drew (bel_refl wr))
                haveI : Nonempty (Held S) := ⟨⟨_, hS0⟩⟩
                clear hSS
                refine wp_region_tree (S := S) 14 (.q 0 <| .q 1 <| .q 2 <| .q 3 <| .q 4 <| .q 5 <| .q 6 <| .q 7 <| .a 8 <| .q 9 <| .q 10 <| .q 11 <| .q 12 <| .q 13 <| .done) [] (by kernel_rfl) (by kernel_rfl) hS0 ?_
                repeat (refine tree_q (by rfl) (by rfl) (fun K hK => ?_); go_simp; refine hK _ ?_; clear hK K)
                refine tree_a (by rfl) (by rfl) (fun K hK => ?_)
                go_simp
                refine (mstate_any x.row x.col (HMM.out.below (bel_drew (bel_refl wr))) HRX.out).mono ?_
                rintro e w15 ⟨rfl, hb15⟩
                rw [HFX.out]
                have hB15 := bel_call (bel_drew (bel_refl wr)) hb15
                clear hb15
                refine hK _ _ (HCL.out _ (hB15)) ?_
                clear hK K
                repeat (refine tree_q (by rfl) (by rfl) (fun K hK => ?_); go_simp; refine hK _ ?_; clear hK K)
                refine tree_nil ?_
                clear q0 l0 q1 q2 hS0 HSS HCL
                replace hj2 := bel_call hj2 hB15
                clear hB15 HMM HTOP HG HC0 HC1
                go_wp2_with fail
                go_roundw
                case rel => exact ⟨k2 + 1, by omega, by go_num, hj2⟩
                case measure => simp [intOf]; omega
              obtain rfl : k2 = L10.length := by omega
              have i2 : ¬ ((L10.length : Int) < (L10.length : Int)) := by omega
              replace h9 := h9.below hj2
              replace kb9 := kb9.below hj2
              replace hry := hry.below hj2
              have qx := kb9.1.rd
              clear hLi10' hj2 HDL HRG hkl2
              go_wp2_with fail
              refine (reached_any d.row d.col h9.bs.top hry HSRT.out hE20).mono ?_
              rintro e w11 ⟨v11, out, rfl, hO11, hR11, hl11, hb11⟩
              replace h9 := h9.below hb11
              obtain ⟨A11, c11, rfl, _, hc11, hLi11, _⟩ := hO11.see
              have HR11 := Lib.hid hR11
              have HRG : Hid (∀ y, y ∈ out → rngC y) := Lib.hid (fun y hy => by
                obtain ⟨p, hp, rfl⟩ := List.mem_map.1 (HR11.out y hy).1
                exact rngC_of_may (h9.bs.okE p hp).2)
              clear qx hb11 hO11 hR11 hc11 kb9 hry
              have hj := bel_refl w11
              go_wp2_with fail
              go_loopw [12] (fun s wr => ∃ k2 : Nat, k2 ≤ out.length ∧ s = .int .i64 k2 ∧ Below w11.heap.size w11 wr) (fun s _ => out.length - (intOf s).toNat)
              case atStart => exact ⟨0, Nat.zero_le _, rfl, hj⟩
              case round =>
                obtain ⟨k2, hk2, rfl, hj2⟩ := hrel
                clear hj
                by_cases hkl2 : k2 < out.length
                · obtain ⟨x, hx⟩ : ∃ x, out[k2]? = some x := ⟨_, List.getElem?_eq_getElem hkl2⟩
                  obtain ⟨g, off, hAe, hg, c0, c1⟩ := cl_at (hLi11.below hj2) hx
                  subst hAe
                  have HXM : Hid (x ∈ out) := Lib.hid (List.mem_of_getElem? hx)
                  have HRX : Hid (rngC ⟨x.row, x.col⟩) := Lib.hid (HRG.out x HXM.out)
                  obtain ⟨u, hfx, hu⟩ : ∃ u, f9 (⟨x.row, x.col⟩ : Cl) = some u ∧ u ≠ 0 := by
                    have h1 : ¬ cln (f9 x) := up_reach (c := ⟨d.row, d.col⟩) HUP9.out HDUE.out (HR11.out x HXM.out).2
                    cases hf : f9 x with
                    | none => rw [hf] at h1; exact absurd rfl h1
                    | some u => exact ⟨u, rfl, fun e => by rw [hf, e] at h1; exact h1 rfl⟩
                  have HFX := Lib.hid hfx
                  have hq0 : (u == 0) = false := by rw [beq_eq_false_iff_ne]; exact hu
                  have hq1 : decide (u = 0) = false := decide_eq_false hu
                  clear hfx
                  have HMM := Lib.hid (h9.bs.mm.below hj2)
                  have HTOP := Lib.hid (h9.bs.top.below hj2)
                  have HG := Lib.hid hg
                  have HC0 := Lib.hid c0
                  have HC1 := Lib.hid c1
                  have i0 : (0 : Int) ≤ (k2 : Int) := by omega
                  have i1 : (k2 : Int) < (out.length : Int) := by omega
                  clear hx hg c0 c1
                  go_wp2_with fail
                  obtain ⟨S, hSS⟩ : ∃ S : World → Prop, S = fun W => Blk W bb 30 #[.pointer (some ⟨db, 0, none⟩), .pointer (some ⟨mb, 0, none⟩), .pointer (some ⟨yb, 0, none⟩), .pointer (some ⟨rb, 0, none⟩)] ∧ W.cell? ⟨g, off + k2 * 2, none⟩ = some (.int .i64 x.row) ∧ W.cell? ⟨g, off + k2 * 2 + 1, none⟩ = some (.int .i64 x.col) := ⟨_, rfl⟩
                  have q0 := fun x => (held_of hSS x).1.rd
                  have l0 := fun x => (held_of hSS x).1.lt
                  have q1 := fun x => (held_of hSS x).2.1
                  have q2 := fun x => (held_of hSS x).2.2
                  have HSS := Lib.hid hSS
                  have HCL : Hid (∀ W', Below wr.heap.size wr W' → S W') := Lib.hid (fun W' hB => held_in HSS.out ⟨HTOP.out.below hB, (hB.cell HG.out).trans HC0.out, (hB.cell HG.out).trans HC1.out⟩)
                  have hS0 : S wr.drew := HCL.out _ (bel_drew (bel_refl wr))
                  haveI : Nonempty (Held S) := ⟨⟨_, hS0⟩⟩
                  clear hSS
                  refine wp_region_tree (S := S) 14 (.q 0 <| .q 1 <| .q 2 <| .q 3 <| .q 4 <| .q 5 <| .q 6 <| .q 7 <| .a 8 <| .q 9 <| .q 10 <| .q 11 <| .q 12 <| .q 13 <| .done) [] (by kernel_rfl) (by kernel_rfl) hS0 ?_
                  repeat (refine tree_q (by rfl) (by rfl) (fun K hK => ?_); go_simp; refine hK _ ?_; clear hK K)
                  refine tree_a (by rfl) (by rfl) (fun K hK => ?_)
                  go_simp
                  refine (mstate_any x.row x.col (HMM.out.below (bel_drew (bel_refl wr))) HRX.out).mono ?_
                  rintro e w15 ⟨rfl, hb15⟩
                  rw [HFX.out]
                  have hB15 := bel_call (bel_drew (bel_refl wr)) hb15
                  clear hb15
                  refine hK _ _ (HCL.out _ (hB15)) ?_
                  clear hK K
                  repeat (refine tree_q (by rfl) (by rfl) (fun K hK => ?_); go_simp; refine hK _ ?_; clear hK K)
                  refine tree_nil ?_
                  clear q0 l0 q1 q2 hS0 HSS HCL
                  replace hj2 := bel_call hj2 hB15
                  clear hB15 HMM HTOP HG HC0 HC1
                  go_wp2_with fail
                  go_roundw
                  case rel => exact ⟨k2 + 1, by omega, by go_num, hj2⟩
                  case measure => simp [intOf]; omega
                obtain rfl : k2 = out.length := by omega
                have i3 : ¬ ((out.length : Int) < (out.length : Int)) := by omega
                replace h9 := h9.below hj2
                clear hLi11 hj2 hkl2
                go_wp2_with fail
                go_roundw
                case rel => exact ⟨k + 1, col9, pk9, f9, Es9, by omega, by go_num, h9, HUP9⟩
                case measure => simp [intOf]; omega
          · have b0 : (er == 0) = false := by rw [beq_eq_false_iff_ne]; exact h0
            have b1 : decide (er = 0) = false := decide_eq_false h0
            have HE0 : Hid (setE (⟨d.row, d.col⟩ : Cl) d.L ≠ 0) := Lib.hid (by rw [← HER.out]; exact h0)
            repeat (first | (refine tree_q (by rfl) (by rfl) (fun K hK => ?_); go_simp; refine hK _ ?_; clear hK K) | (refine tree_qg (by rfl) (by rfl) (by rfl) (fun K hK => ?_); go_simp; refine hK _ ?_; clear hK K) | (refine tree_qn (by rfl) (by rfl) (by rfl) rfl ?_; go_simp))
            refine tree_nil ?_
            clear q0 l0 q1 hS0 HSS HCL
            have h9 := h6.refused HE0.out
            have kb := kb6
            rw [← HTK.out] at h9
            have qx := kb.1.rd
            have lx := kb.1.lt
            have zx := kb.1.fz
            go_wp2_with fail
            refine (pick_any d.kd _ hkd).mono ?_
            rintro e wp ⟨rfl, rfl⟩
            rw [show pk4 d.kd = 0 from HQ.out.symm]
            go_wp2_with fail
            go_roundw
            case rel => exact ⟨k + 1, col6, pk, f, Es, by omega, by go_num, h9, HUP⟩
            case measure => simp [intOf]; omega
        | false =>
          have kb : Bx _ col gx 35 #[.int .i64 d.kd, .int .i64 d.row, .int .i64 d.col, .slice d.A d.L.length d.cap, .bool false] := kb
          have qx := kb.1.rd
          have lx := kb.1.lt
          have zx := kb.1.fz
          go_upto_region 11 with fail
          replace h := h.poke (g := gx) kb.2 hgx 4 (.bool (decide (0 < d.L.length)))
          replace kb := kb.put 4 (.bool (decide (0 < d.L.length)))
          generalize hwz : w2.setCell ⟨gx, 4, none⟩ (.bool (decide (0 < d.L.length))) = w4 at h kb ⊢
          clear hwz qx lx zx
          have kb : Bx _ col gx 35 #[.int .i64 d.kd, .int .i64 d.row, .int .i64 d.col, .slice d.A d.L.length d.cap, .bool (decide (0 < d.L.length))] := kb
          have qx := kb.1.rd
          have lx := kb.1.lt
          have zx := kb.1.fz
          go_wp2_with fail
          refine (pick_any d.kd _ hkd).mono ?_
          rintro e wp ⟨rfl, rfl⟩
          rw [show pk4 d.kd = 0 from HQ.out.symm]
          clear qx lx zx
          go_upto_region 13 with fail
          obtain ⟨S, hSS⟩ : ∃ S : World → Prop, S = fun W => Blk W bb 30 #[.pointer (some ⟨db, 0, none⟩), .pointer (some ⟨mb, 0, none⟩), .pointer (some ⟨yb, 0, none⟩), .pointer (some ⟨rb, 0, none⟩)] ∧ Blk W gx 35 #[.int .i64 d.kd, .int .i64 d.row, .int .i64 d.col, .slice d.A d.L.length d.cap, .bool (decide (0 < d.L.length))] := ⟨_, rfl⟩
          have q0 := fun x => (held_of hSS x).1.rd
          have l0 := fun x => (held_of hSS x).1.lt
          have q1 := fun x => (held_of hSS x).2.rd
          have HSS := Lib.hid hSS
          have HCL : Hid (∀ W', Blk W' bb 30 #[.pointer (some ⟨db, 0, none⟩), .pointer (some ⟨mb, 0, none⟩), .pointer (some ⟨yb, 0, none⟩), .pointer (some ⟨rb, 0, none⟩)] ∧ Blk W' gx 35 #[.int .i64 d.kd, .int .i64 d.row, .int .i64 d.col, .slice d.A d.L.length d.cap, .bool (decide (0 < d.L.length))] → S W') := Lib.hid (fun W' hB => held_in HSS.out hB)
          have hS0 : S w4.drew := HCL.out _ (⟨h.bs.top.drew, kb.1.drew⟩)
          haveI : Nonempty (Held S) := ⟨⟨_, hS0⟩⟩
          clear hSS
          refine wp_region_tree (S := S) 23 (.q 0 <| .q 1 <| .a 2 <| .q 3 <| .q 4 <| .q 5 <| .q 6 <| .a 7 <| .q 8 <| .q 9 <| .q 10 <| .q 11 <| .q 12 <| .q 13 <| .q 14 <| .q 15 <| .q 16 <| .q 17 <| .a 18 <| .q 19 <| .q 20 <| .q 21 <| .q 22 <| .done) [] (by kernel_rfl) (by kernel_rfl) hS0 ?_
          repeat (first | (refine tree_q (by rfl) (by rfl) (fun K hK => ?_); go_simp; refine hK _ ?_; clear hK K) | (refine tree_qg (by rfl) (by rfl) (by rfl) (fun K hK => ?_); go_simp; refine hK _ ?_; clear hK K) | (refine tree_qn (by rfl) (by rfl) (by rfl) rfl ?_; go_simp))
          refine tree_a (by rfl) (by rfl) (fun K hK => ?_)
          go_simp
          refine (pick_any d.kd _ hkd).mono ?_
          rintro e wp ⟨rfl, rfl⟩
          rw [show pk4 d.kd = 0 from HQ.out.symm]
          refine hK _ _ (HCL.out _ (⟨h.bs.top.drew, kb.1.drew⟩)) ?_
          clear hK K
          repeat (first | (refine tree_q (by rfl) (by rfl) (fun K hK => ?_); go_simp; refine hK _ ?_; clear hK K) | (refine tree_qg (by rfl) (by rfl) (by rfl) (fun K hK => ?_); go_simp; refine hK _ ?_; clear hK K) | (refine tree_qn (by rfl) (by rfl) (by rfl) rfl ?_; go_simp))
          refine tree_ag (by rfl) (by rfl) (by rfl) (fun K hK => ?_)
          go_simp
          refine (pick_any d.kd _ hkd).mono ?_
          rintro e wp ⟨rfl, rfl⟩
          rw [show pk4 d.kd = 0 from HQ.out.symm]
          refine hK _ _ (HCL.out _ (⟨h.bs.top.drew, kb.1.drew⟩)) ?_
          clear hK K
          repeat (first | (refine tree_q (by rfl) (by rfl) (fun K hK => ?_); go_simp; refine hK _ ?_; clear hK K) | (refine tree_qg (by rfl) (by rfl) (by rfl) (fun K hK => ?_); go_simp; refine hK _ ?_; clear hK K) | (refine tree_qn (by rfl) (by rfl) (by rfl) rfl ?_; go_simp))
          refine tree_ag (by rfl) (by rfl) (by rfl) (fun K hK => ?_)
          go_simp
          refine (li_set d.row d.col d.L d.A d.cap (h.below (bel_drew (bel_refl w4))) hLi hT).mono ?_
          rintro e w6 ⟨rfl, col6, h6, x6⟩
          have kb6 := (kb.below (bel_drew (bel_refl w4))).ext x6
          obtain ⟨er, her⟩ : ∃ er, er = setE (⟨d.row, d.col⟩ : Cl) d.L := ⟨_, rfl⟩
          rw [← her]
          have HER := Lib.hid her
          clear her
          refine hK _ _ (HCL.out _ (⟨h6.bs.top, kb6.1⟩)) ?_
          clear hK K
          by_cases h0 : er = 0
          · subst h0
            repeat (first | (refine tree_q (by rfl) (by rfl) (fun K hK => ?_); go_simp; refine hK _ ?_; clear hK K) | (refine tree_qg (by rfl) (by rfl) (by rfl) (fun K hK => ?_); go_simp; refine hK _ ?_; clear hK K) | (refine tree_qn (by rfl) (by rfl) (by rfl) rfl ?_; go_simp))
            refine tree_nil ?_
            clear q0 l0 q1 hS0 HSS HCL
            have kb := kb6
            have qx := kb.1.rd
            have lx := kb.1.lt
            have zx := kb.1.fz
            go_wp2_with fail
            refine (pick_any d.kd _ hkd).mono ?_
            rintro e wp ⟨rfl, rfl⟩
            rw [show pk4 d.kd = 0 from HQ.out.symm]
            go_wp2_with fail
            refine (li_does2 d.kd d.row d.col d.L d.A d.cap (decide (0 < d.L.length)) h6 h.bs.srt HQ.out.symm hLi hrcd hkd hT).mono ?_
            rintro e w9 ⟨rfl, col9, pk9, f9, h9, x9, htm⟩
            have hsr := h.bs.srt
            obtain ⟨hup, hdue⟩ := up_touch h9.bs.srt h9.bs.okE HUP.out (fun _ _ hn hx => drc_set hsr hx hn) (fun hc => decide_eq_true (self_set hsr HER.out.symm hc)) (fun hm => setD_nomay hm) htm
            have HUP9 := Lib.hid hup
            have HDUE := Lib.hid hdue
            have kb9 := kb.ext x9
            obtain ⟨Es9, hEs9⟩ : ∃ Es9, Es9 = setD (⟨d.row, d.col⟩ : Cl) d.L Es := ⟨_, rfl⟩
            rw [← hEs9] at h9 HUP9 HDUE
            clear qx lx zx htm hup hdue x9 h kb kb6 h6 x6 hsr hEs9
            go_wp2_with fail
            have hl9 := h9.len
            have hE20 : Es9.length ≤ 1048576 := by omega
            have hE56 : (Es9.length + 1) * 56 ≤ 140737488355328 := by omega
            rw [← HTK.out] at h9
            obtain ⟨Oy, hry, _⟩ := h9.bs.rs
            have HSRT := Lib.hid h9.bs.srt
            have qx := kb9.1.rd
            have lx := kb9.1.lt
            have qb := h9.bs.top.rd
            have lb := h9.bs.top.lt
            go_wp2_with fail
            go_still_tail 6, (by kernel_rfl)
            go_wp2_with fail
            refine (rs_direct yb Oy Es9 d.row d.col _ (hry.below (bel_drew (bel_refl _))) hE56).mono ?_
            rintro e w10 ⟨v10, rfl, hO10, hb10⟩
            replace h9 := h9.below (bel_call (bel_drew (bel_refl _)) hb10)
            replace kb9 := kb9.below (bel_call (bel_drew (bel_refl _)) hb10)
            replace hry := hry.below (bel_call (bel_drew (bel_refl _)) hb10)
            obtain ⟨A10, c10, rfl, _, hc10, hLi10, _⟩ := hO10.see
            have HDL : Hid (∀ y, y ∈ drs d.row d.col Es9 → f9 y = some 2) := Lib.hid (fun y hy => HDUE.out y hy)
            have HRG : Hid (∀ y, y ∈ drs d.row d.col Es9 → rngC y) := Lib.hid (fun y hy => by
              obtain ⟨p, hp, rfl⟩ := List.mem_map.1 (drc_mem (y := ⟨d.row, d.col⟩) HSRT.out hy)
              exact rngC_of_may (h9.bs.okE p hp).2)
            have hdl10 : (drs d.row d.col Es9).length ≤ Es9.length := drc_len Es9 ⟨d.row, d.col⟩
            generalize drs d.row d.col Es9 = L10 at hLi10 HDL HRG hdl10 ⊢
            have hLi10' := hLi10
            clear qx lx qb lb hb10 hO10 hLi10
            have hj := bel_refl w10
            go_wp2_with fail
            go_loopw [8] (fun s wr => ∃ k2 : Nat, k2 ≤ L10.length ∧ s = .int .i64 k2 ∧ Below w10.heap.size w10 wr) (fun s _ => L10.length - (intOf s).toNat)
            case atStart => exact ⟨0, Nat.zero_le _, rfl, hj⟩
            case round =>
              obtain ⟨k2, hk2, rfl, hj2⟩ := hrel
              clear hj
              by_cases hkl2 : k2 < L10.length
              · obtain ⟨x, hx⟩ : ∃ x, L10[k2]? = some x := ⟨_, List.getElem?_eq_getElem hkl2⟩
                obtain ⟨g, off, hAe, hg, c0, c1⟩ := cl_at (hLi10'.below hj2) hx
                subst hAe
                have HXM : Hid (x ∈ L10) := Lib.hid (List.mem_of_getElem? hx)
                have HRX : Hid (rngC ⟨x.row, x.col⟩) := Lib.hid (HRG.out x HXM.out)
                have HFX : Hid (f9 (⟨x.row, x.col⟩ : Cl) = some 2) := Lib.hid (HDL.out x HXM.out)
                have HMM := Lib.hid (h9.bs.mm.below hj2)
                have HTOP := Lib.hid (h9.bs.top.below hj2)
                have HG := Lib.hid hg
                have HC0 := Lib.hid c0
                have HC1 := Lib.hid c1
                have i0 : (0 : Int) ≤ (k2 : Int) := by omega
                have i1 : (k2 : Int) < (L10.length : Int) := by omega
                clear hx hg c0 c1
                go_wp2_with fail
                obtain ⟨S, hSS⟩ : ∃ S : World → Prop, S = fun W => Blk W bb 30 #[.pointer (some ⟨db, 0, none⟩), .pointer (some ⟨mb, 0, none⟩), .pointer (some ⟨yb, 0, none⟩), .pointer (some ⟨rb, 0, none⟩)] ∧ W.cell? ⟨g, off + k2 * 2, none⟩ = some (.int .i64 x.row) ∧ W.cell? ⟨g, off + k2 * 2 + 1, none⟩ = some (.int .i64 x.col) := ⟨_, rfl⟩
                have q0 := fun x => (held_of hSS x).1.rd
                have l0 := fun x => (held_of hSS x).1.lt
                have q1 := fun x => (held_of hSS x).2.1
                have q2 := fun x => (held_of hSS x).2.2
                have HSS := Lib.hid hSS
                have HCL : Hid (∀ W', Below wr.heap.size wr W' → S W') := Lib.hid (fun W' hB => held_in HSS.out ⟨HTOP.out.below hB, (hB.cell HG.out).trans HC0.out, (hB.cell HG.out).trans HC1.out⟩)
                have hS0 : S wr.drew := HCL.out _ (bel_drew (bel_refl wr))
                haveI : Nonempty (Held S) := ⟨⟨_, hS0⟩⟩
                clear hSS
                refine wp_region_tree (S := S) 14 (.q 0 <| .q 1 <| .q 2 <| .q 3 <| .q 4 <| .q 5 <| .q 6 <| .q 7 <| .a 8 <| .q 9 <| .q 10 <| .q 11 <| .q 12 <| .q 13 <| .done) [] (by kernel_rfl) (by kernel_rfl) hS0 ?_
                repeat (refine tree_q (by rfl) (by rfl) (fun K hK => ?_); go_simp; refine hK _ ?_; clear hK K)
                refine tree_a (by rfl) (by rfl) (fun K hK => ?_)
                go_simp
                refine (mstate_any x.row x.col (HMM.out.below (bel_drew (bel_refl wr))) HRX.out).mono ?_
                rintro e w15 ⟨rfl, hb15⟩
                rw [HFX.out]
                have hB15 := bel_call (bel_drew (bel_refl wr)) hb15
                clear hb15
                refine hK _ _ (HCL.out _ (hB15)) ?_
                clear hK K
                repeat (refine tree_q (by rfl) (by rfl) (fun K hK => ?_); go_simp; refine hK _ ?_; clear hK K)
                refine tree_nil ?_
                clear q0 l0 q1 q2 hS0 HSS HCL
                replace hj2 := bel_call hj2 hB15
                clear hB15 HMM HTOP HG HC0 HC1
                go_wp2_with fail
                go_roundw
                case rel => exact ⟨k2 + 1, by omega, by go_num, hj2⟩
                case measure => simp [intOf]; omega
              obtain rfl : k2 = L10.length := by omega
              have i2 : ¬ ((L10.length : Int) < (L10.length : Int)) := by omega
              replace h9 := h9.below hj2
              replace kb9 := kb9.below hj2
              replace hry := hry.below hj2
              have qx := kb9.1.rd
              clear hLi10' hj2 HDL HRG hkl2
              go_wp2_with fail
              refine (reached_any d.row d.col h9.bs.top hry HSRT.out hE20).mono ?_
              rintro e w11 ⟨v11, out, rfl, hO11, hR11, hl11, hb11⟩
              replace h9 := h9.below hb11
              obtain ⟨A11, c11, rfl, _, hc11, hLi11, _⟩ := hO11.see
              have HR11 := Lib.hid hR11
              have HRG : Hid (∀ y, y ∈ out → rngC y) := Lib.hid (fun y hy => by
                obtain ⟨p, hp, rfl⟩ := List.mem_map.1 (HR11.out y hy).1
                exact rngC_of_may (h9.bs.okE p hp).2)
              clear qx hb11 hO11 hR11 hc11 kb9 hry
              have hj := bel_refl w11
              go_wp2_with fail
              go_loopw [12] (fun s wr => ∃ k2 : Nat, k2 ≤ out.length ∧ s = .int .i64 k2 ∧ Below w11.heap.size w11 wr) (fun s _ => out.length - (intOf s).toNat)
              case atStart => exact ⟨0, Nat.zero_le _, rfl, hj⟩
              case round =>
                obtain ⟨k2, hk2, rfl, hj2⟩ := hrel
                clear hj
                by_cases hkl2 : k2 < out.length
                · obtain ⟨x, hx⟩ : ∃ x, out[k2]? = some x := ⟨_, List.getElem?_eq_getElem hkl2⟩
                  obtain ⟨g, off, hAe, hg, c0, c1⟩ := cl_at (hLi11.below hj2) hx
                  subst hAe
                  have HXM : Hid (x ∈ out) := Lib.hid (List.mem_of_getElem? hx)
                  have HRX : Hid (rngC ⟨x.row, x.col⟩) := Lib.hid (HRG.out x HXM.out)
                  obtain ⟨u, hfx, hu⟩ : ∃ u, f9 (⟨x.row, x.col⟩ : Cl) = some u ∧ u ≠ 0 := by
                    have h1 : ¬ cln (f9 x) := up_reach (c := ⟨d.row, d.col⟩) HUP9.out HDUE.out (HR11.out x HXM.out).2
                    cases hf : f9 x with
                    | none => rw [hf] at h1; exact absurd rfl h1
                    | some u => exact ⟨u, rfl, fun e => by rw [hf, e] at h1; exact h1 rfl⟩
                  have HFX := Lib.hid hfx
                  have hq0 : (u == 0) = false := by rw [beq_eq_false_iff_ne]; exact hu
                  have hq1 : decide (u = 0) = false := decide_eq_false hu
                  clear hfx
                  have HMM := Lib.hid (h9.bs.mm.below hj2)
                  have HTOP := Lib.hid (h9.bs.top.below hj2)
                  have HG := Lib.hid hg
                  have HC0 := Lib.hid c0
                  have HC1 := Lib.hid c1
                  have i0 : (0 : Int) ≤ (k2 : Int) := by omega
                  have i1 : (k2 : Int) < (out.length : Int) := by omega
                  clear hx hg c0 c1
                  go_wp2_with fail
                  obtain ⟨S, hSS⟩ : ∃ S : World → Prop, S = fun W => Blk W bb 30 #[.pointer (some ⟨db, 0, none⟩), .pointer (some ⟨mb, 0, none⟩), .pointer (some ⟨yb, 0, none⟩), .pointer (some ⟨rb, 0, none⟩)] ∧ W.cell? ⟨g, off + k2 * 2, none⟩ = some (.int .i64 x.row) ∧ W.cell? ⟨g, off + k2 * 2 + 1, none⟩ = some (.int .i64 x.col) := ⟨_, rfl⟩
                  have q0 := fun x => (held_of hSS x).1.rd
                  have l0 := fun x => (held_of hSS x).1.lt
                  have q1 := fun x => (held_of hSS x).2.1
                  have q2 := fun x => (held_of hSS x).2.2
                  have HSS := Lib.hid hSS
                  have HCL : Hid (∀ W', Below wr.heap.size wr W' → S W') := Lib.hid (fun W' hB => held_in HSS.out ⟨HTOP.out.below hB, (hB.cell HG.out).trans HC0.out, (hB.cell HG.out).trans HC1.out⟩)
                  have hS0 : S wr.drew := HCL.out _ (bel_drew (bel_refl wr))
                  haveI : Nonempty (Held S) := ⟨⟨_, hS0⟩⟩
                  clear hSS
                  refine wp_region_tree (S := S) 14 (.q 0 <| .q 1 <| .q 2 <| .q 3 <| .q 4 <| .q 5 <| .q 6 <| .q 7 <| .a 8 <| .q 9 <| .q 10 <| .q 11 <| .q 12 <| .q 13 <| .done) [] (by kernel_rfl) (by kernel_rfl) hS0 ?_
                  repeat (refine tree_q (by rfl) (by rfl) (fun K hK => ?_); go_simp; refine hK _ ?_; clear hK K)
                  refine tree_a (by rfl) (by rfl) (fun K hK => ?_)
                  go_simp
                  refine (mstate_any x.row x.col (HMM.out.below (bel_drew (bel_refl wr))) HRX.out).mono ?_
                  rintro e w15 ⟨rfl, hb15⟩
                  rw [HFX.out]
                  have hB15 := bel_call (bel_drew (bel_refl wr)) hb15
                  clear hb15
                  refine hK _ _ (HCL.out _ (hB15)) ?_
                  clear hK K
                  repeat (refine tree_q (by rfl) (by rfl) (fun K hK => ?_); go_simp; refine hK _ ?_; clear hK K)
                  refine tree_nil ?_
                  clear q0 l0 q1 q2 hS0 HSS HCL
                  replace hj2 := bel_call hj2 hB15
                  clear hB15 HMM HTOP HG HC0 HC1
                  go_wp2_with fail
                  go_roundw
                  case rel => exact ⟨k2 + 1, by omega, by go_num, hj2⟩
                  case measure => simp [intOf]; omega
                obtain rfl : k2 = out.length := by omega
                have i3 : ¬ ((out.length : Int) < (out.length : Int)) := by omega
                replace h9 := h9.below hj2
                clear hLi11 hj2 hkl2
                go_wp2_with fail
                go_roundw
                case rel => exact ⟨k + 1, col9, pk9, f9, Es9, by omega, by go_num, h9, HUP9⟩
                case measure => simp [intOf]; omega
          · have b0 : (er == 0) = false := by rw [beq_eq_false_iff_ne]; exact h0
            have b1 : decide (er = 0) = false := decide_eq_false h0
            have HE0 : Hid (setE (⟨d.row, d.col⟩ : Cl) d.L ≠ 0) := Lib.hid (by rw [← HER.out]; exact h0)
            repeat (first | (refine tree_q (by rfl) (by rfl) (fun K hK => ?_); go_simp; refine hK _ ?_; clear hK K) | (refine tree_qg (by rfl) (by rfl) (by rfl) (fun K hK => ?_); go_simp; refine hK _ ?_; clear hK K) | (refine tree_qn (by rfl) (by rfl) (by rfl) rfl ?_; go_simp))
            refine tree_nil ?_
            clear q0 l0 q1 hS0 HSS HCL
            have h9 := h6.refused HE0.out
            have kb := kb6
            rw [← HTK.out] at h9
            have qx := kb.1.rd
            have lx := kb.1.lt
            have zx := kb.1.fz
            go_wp2_with fail
            refine (pick_any d.kd _ hkd).mono ?_
            rintro e wp ⟨rfl, rfl⟩
            rw [show pk4 d.kd = 0 from HQ.out.symm]
            go_wp2_with fail
            go_roundw
            case rel => exact ⟨k + 1, col6, pk, f, Es, by omega, by go_num, h9, HUP⟩
            case measure => simp [intOf]; omega
      · cases fm0 with
        | true =>
          have kb : Bx _ col gx 35 #[.int .i64 d.kd, .int .i64 d.row, .int .i64 d.col, .slice d.A d.L.length d.cap, .bool true] := kb
          have qx := kb.1.rd
          have lx := kb.1.lt
          have zx := kb.1.fz
          go_upto_region 11 with fail
          replace h := h.poke (g := gx) kb.2 hgx 4 (.bool true)
          replace kb := kb.put 4 (.bool true)
          generalize hwz : w2.setCell ⟨gx, 4, none⟩ (.bool true) = w4 at h kb ⊢
          clear hwz qx lx zx
          have kb : Bx _ col gx 35 #[.int .i64 d.kd, .int .i64 d.row, .int .i64 d.col, .slice d.A d.L.length d.cap, .bool true] := kb
          have qx := kb.1.rd
          have lx := kb.1.lt
          have zx := kb.1.fz
          go_wp2_with fail
          refine (pick_any d.kd _ hkd).mono ?_
          rintro e wp ⟨rfl, rfl⟩
          rw [show pk4 d.kd = 1 from HQ.out.symm]
          clear qx lx zx
          have hl0 := h.len
          have hE56' : (Es.length + 1) * 56 ≤ 140737488355328 := by omega
          obtain ⟨Oz, hrz, _⟩ := h.bs.rs
          have qb := h.bs.top.rd
          have lb := h.bs.top.lt
          have qx := kb.1.rd
          have lx := kb.1.lt
          have zx := kb.1.fz
          go_upto_region 12 with fail
          go_still_tail 6, (by kernel_rfl)
          go_wp2_with fail
          refine (refsOf_any d.row d.col (hrz.below (bel_drew (bel_refl _))) hE56').mono ?_
          rintro e w5 ⟨v5, rfl, hO5, hb5⟩
          obtain ⟨A5, c5, rfl, _, _, _, _⟩ := hO5.see
          replace h := h.below (bel_call (bel_drew (bel_refl _)) hb5)
          replace kb := kb.below (bel_call (bel_drew (bel_refl _)) hb5)
          obtain ⟨nr, hnr⟩ : ∃ nr, nr = (RefsOf Es (⟨d.row, d.col⟩ : Cl)).length := ⟨_, rfl⟩
          rw [← hnr]
          have HNR := Lib.hid hnr
          clear qx lx zx qb lb hb5 hO5 hrz hnr
          have qx := kb.1.rd
          have lx := kb.1.lt
          have zx := kb.1.fz
          go_upto_region 13 with fail
          replace h := h.poke (g := gx) kb.2 hgx 4 (.bool (decide (0 < nr)))
          replace kb := kb.put 4 (.bool (decide (0 < nr)))
          generalize hwz : w5.setCell ⟨gx, 4, none⟩ (.bool (decide (0 < nr))) = w6 at h kb ⊢
          clear hwz qx lx zx
          have kb : Bx _ col gx 35 #[.int .i64 d.kd, .int .i64 d.row, .int .i64 d.col, .slice d.A d.L.length d.cap, .bool (decide (0 < nr))] := kb
          have hP : ∀ W, Calls Try.prog 8 #[.int .i64 d.kd, .int .i64 4] W fun e w' => e = .returned (.int .i64 1) ∧ Below W.heap.size W w' := fun W => (pick_any d.kd W hkd).mono (fun e w' ⟨h1, h2⟩ => ⟨by rw [h1, show pk4 d.kd = 1 from HQ.out.symm], by rw [← h2]; exact bel_refl W⟩)
          have HP := Lib.hid hP
          have gx0 := kb.1.gr
          have lx0 := kb.1.lt
          clear hP
          refine wp_region_quiet_below (by kernel_rfl) (by kernel_rfl) ?_
          repeat (any_goals (first | go_big_quiet_step ((first | (go_at_call 8; exact Calls.regrown_of (HP.out _)))) | fail))
          refine wpQuiet_nil ?_
          intro w5 hw'
          have hb5 := class_below hw'
          replace h := h.below hb5
          replace kb := kb.below hb5
          clear hw' gx0 lx0 HP hb5
          have qx := kb.1.rd
          have lx := kb.1.lt
          have zx := kb.1.fz
          go_wp2_with fail
          refine (pick_any d.kd _ hkd).mono ?_
          rintro e wp ⟨rfl, rfl⟩
          rw [show pk4 d.kd = 1 from HQ.out.symm]
          go_wp2_with fail
          refine (li_does d.kd d.row d.col d.L d.A d.cap (decide (0 < nr)) h hLi hrcd hkd hT).mono ?_
          rintro e w9 ⟨rfl, col9, pk9, f9, Es9, h9, x9, hst⟩
          rw [show pk4 d.kd = 1 from HQ.out.symm] at hst
          have hut : Es9 = Es ∧ TMay Es ⟨d.row, d.col⟩ (decide (0 < nr)) f f9 pk pk9 := by
            rcases hst with ⟨hc, _⟩ | ⟨_, h1, h2⟩ | ⟨hc, _⟩ | ⟨hc, _⟩
            · cases hc
            · exact ⟨h1, h2⟩
            · cases hc
            · cases hc
          obtain ⟨rfl, htm⟩ := hut
          obtain ⟨hup, hdue⟩ := up_touch h.bs.srt h.bs.okE HUP.out (fun _ _ _ hx => hx) (fun hc => decide_eq_true (by rw [HNR.out]; exact refsOf_pos.2 hc)) (fun _ => rfl) htm
          have HUP9 := Lib.hid hup
          have HDUE := Lib.hid hdue
          have kb9 := kb.ext x9
          clear qx lx zx hst htm hup hdue x9 h kb
          go_wp2_with fail
          have hl9 := h9.len
          have hE20 : Es9.length ≤ 1048576 := by omega
          have hE56 : (Es9.length + 1) * 56 ≤ 140737488355328 := by omega
          rw [← HTK.out] at h9
          obtain ⟨Oy, hry, _⟩ := h9.bs.rs
          have HSRT := Lib.hid h9.bs.srt
          have qx := kb9.1.rd
          have lx := kb9.1.lt
          have qb := h9.bs.top.rd
          have lb := h9.bs.top.lt
          go_wp2_with fail
          go_still_tail 6, (by kernel_rfl)
          go_wp2_with fail
          refine (rs_direct yb Oy Es9 d.row d.col _ (hry.below (bel_drew (bel_refl _))) hE56).mono ?_
          rintro e w10 ⟨v10, rfl, hO10, hb10⟩
          replace h9 := h9.below (bel_call (bel_drew (bel_refl _)) hb10)
          replace kb9 := kb9.below (bel_call (bel_drew (bel_refl _)) hb10)
          replace hry := hry.below (bel_call (bel_drew (bel_refl _)) hb10)
          obtain ⟨A10, c10, rfl, _, hc10, hLi10, _⟩ := hO10.see
          have HDL : Hid (∀ y, y ∈ drs d.row d.col Es9 → f9 y = some 2) := Lib.hid (fun y hy => HDUE.out y hy)
          have HRG : Hid (∀ y, y ∈ drs d.row d.col Es9 → rngC y) := Lib.hid (fun y hy => by
            obtain ⟨p, hp, rfl⟩ := List.mem_map.1 (drc_mem (y := ⟨d.row, d.col⟩) HSRT.out hy)
            exact rngC_of_may (h9.bs.okE p hp).2)
          have hdl10 : (drs d.row d.col Es9).length ≤ Es9.length := drc_len Es9 ⟨d.row, d.col⟩
          generalize drs d.row d.col Es9 = L10 at hLi10 HDL HRG hdl10 ⊢
          have hLi10' := hLi10
          clear qx lx qb lb hb10 hO10 hLi10
          have hj := bel_refl w10
          go_wp2_with fail
          go_loopw [8] (fun s wr => ∃ k2 : Nat, k2 ≤ L10.length ∧ s = .int .i64 k2 ∧ Below w10.heap.size w10 wr) (fun s _ => L10.length - (intOf s).toNat)
          case atStart => exact ⟨0, Nat.zero_le _, rfl, hj⟩
          case round =>
            obtain ⟨k2, hk2, rfl, hj2⟩ := hrel
            clear hj
            by_cases hkl2 : k2 < L10.length
            · obtain ⟨x, hx⟩ : ∃ x, L10[k2]? = some x := ⟨_, List.getElem?_eq_getElem hkl2⟩
              obtain ⟨g, off, hAe, hg, c0, c1⟩ := cl_at (hLi10'.below hj2) hx
              subst hAe
              have HXM : Hid (x ∈ L10) := Lib.hid (List.mem_of_getElem? hx)
              have HRX : Hid (rngC ⟨x.row, x.col⟩) := Lib.hid (HRG.out x HXM.out)
              have HFX : Hid (f9 (⟨x.row, x.col⟩ : Cl) = some 2) := Lib.hid (HDL.out x HXM.out)
              have HMM := Lib.hid (h9.bs.mm.below hj2)
              have HTOP := Lib.hid (h9.bs.top.below hj2)
              have HG := Lib.hid hg
              have HC0 := Lib.hid c0
              have HC1 := Lib.hid c1
              have i0 : (0 : Int) ≤ (k2 : Int) := by omega
              have i1 : (k2 : Int) < (L10.length : Int) := by omega
              clear hx hg c0 c1
              go_wp2_with fail
              obtain ⟨S, hSS⟩ : ∃ S : World → Prop, S = fun W => Blk W bb 30 #[.pointer (some ⟨db, 0, none⟩), .pointer (some ⟨mb, 0, none⟩), .pointer (some ⟨yb, 0, none⟩), .pointer (some ⟨rb, 0, none⟩)] ∧ W.cell? ⟨g, off + k2 * 2, none⟩ = some (.int .i64 x.row) ∧ W.cell? ⟨g, off + k2 * 2 + 1, none⟩ = some (.int .i64 x.col) := ⟨_, rfl⟩
              have q0 := fun x => (held_of hSS x).1.rd
              have l0 := fun x => (held_of hSS x).1.lt
              have q1 := fun x => (held_of hSS x).2.1
              have q2 := fun x => (held_of hSS x).2.2
              have HSS := Lib.hid hSS
              have HCL : Hid (∀ W', Below wr.heap.size wr W' → S W') := Lib.hid (fun W' hB => held_in HSS.out ⟨HTOP.out.below hB, (hB.cell HG.out).trans HC0.out, (hB.cell HG.out).trans HC1.out⟩)
              have hS0 : S wr.drew := HCL.out _ (bel_drew (bel_refl wr))
              haveI : Nonempty (Held S) := ⟨⟨_, hS0⟩⟩
              clear hSS
              refine wp_region_tree (S := S) 14 (.q 0 <| .q 1 <| .q 2 <| .q 3 <| .q 4 <| .q 5 <| .q 6 <| .q 7 <| .a 8 <| .q 9 <| .q 10 <| .q 11 <| .q 12 <| .q 13 <| .done) [] (by kernel_rfl) (by kernel_rfl) hS0 ?_
              repeat (refine tree_q (by rfl) (by rfl) (fun K hK => ?_); go_simp; refine hK _ ?_; clear hK K)
              refine tree_a (by rfl) (by rfl) (fun K hK => ?_)
              go_simp
              refine (mstate_any x.row x.col (HMM.out.below (bel_drew (bel_refl wr))) HRX.out).mono ?_
              rintro e w15 ⟨rfl, hb15⟩
              rw [HFX.out]
              have hB15 := bel_call (bel_drew (bel_refl wr)) hb15
              clear hb15
              refine hK _ _ (HCL.out _ (hB15)) ?_
              clear hK K
              repeat (refine tree_q (by rfl) (by rfl) (fun K hK => ?_); go_simp; refine hK _ ?_; clear hK K)
              refine tree_nil ?_
              clear q0 l0 q1 q2 hS0 HSS HCL
              replace hj2 := bel_call hj2 hB15
              clear hB15 HMM HTOP HG HC0 HC1
              go_wp2_with fail
              go_roundw
              case rel => exact ⟨k2 + 1, by omega, by go_num, hj2⟩
              case measure => simp [intOf]; omega
            obtain rfl : k2 = L10.length := by omega
            have i2 : ¬ ((L10.length : Int) < (L10.length : Int)) := by omega
            replace h9 := h9.below hj2
            replace kb9 := kb9.below hj2
            replace hry := hry.below hj2
            have qx := kb9.1.rd
            clear hLi10' hj2 HDL HRG hkl2
            go_wp2_with fail
            refine (reached_any d.row d.col h9.bs.top hry HSRT.out hE20).mono ?_
            rintro e w11 ⟨v11, out, rfl, hO11, hR11, hl11, hb11⟩
            replace h9 := h9.below hb11
            obtain ⟨A11, c11, rfl, _, hc11, hLi11, _⟩ := hO11.see
            have HR11 := Lib.hid hR11
            have HRG : Hid (∀ y, y ∈ out → rngC y) := Lib.hid (fun y hy => by
              obtain ⟨p, hp, rfl⟩ := List.mem_map.1 (HR11.out y hy).1
              exact rngC_of_may (h9.bs.okE p hp).2)
            clear qx hb11 hO11 hR11 hc11 kb9 hry
            have hj := bel_refl w11
            go_wp2_with fail
            go_loopw [12] (fun s wr => ∃ k2 : Nat, k2 ≤ out.length ∧ s = .int .i64 k2 ∧ Below w11.heap.size w11 wr) (fun s _ => out.length - (intOf s).toNat)
            case atStart => exact ⟨0, Nat.zero_le _, rfl, hj⟩
            case round =>
              obtain ⟨k2, hk2, rfl, hj2⟩ := hrel
              clear hj
              by_cases hkl2 : k2 < out.length
              · obtain ⟨x, hx⟩ : ∃ x, out[k2]? = some x := ⟨_, List.getElem?_eq_getElem hkl2⟩
                obtain ⟨g, off, hAe, hg, c0, c1⟩ := cl_at (hLi11.below hj2) hx
                subst hAe
                have HXM : Hid (x ∈ out) := Lib.hid (List.mem_of_getElem? hx)
                have HRX : Hid (rngC ⟨x.row, x.col⟩) := Lib.hid (HRG.out x HXM.out)
                obtain ⟨u, hfx, hu⟩ : ∃ u, f9 (⟨x.row, x.col⟩ : Cl) = some u ∧ u ≠ 0 := by
                  have h1 : ¬ cln (f9 x) := up_reach (c := ⟨d.row, d.col⟩) HUP9.out HDUE.out (HR11.out x HXM.out).2
                  cases hf : f9 x with
                  | none => rw [hf] at h1; exact absurd rfl h1
                  | some u => exact ⟨u, rfl, fun e => by rw [hf, e] at h1; exact h1 rfl⟩
                have HFX := Lib.hid hfx
                have hq0 : (u == 0) = false := by rw [beq_eq_false_iff_ne]; exact hu
                have hq1 : decide (u = 0) = false := decide_eq_false hu
                clear hfx
                have HMM := Lib.hid (h9.bs.mm.below hj2)
                have HTOP := Lib.hid (h9.bs.top.below hj2)
                have HG := Lib.hid hg
                have HC0 := Lib.hid c0
                have HC1 := Lib.hid c1
                have i0 : (0 : Int) ≤ (k2 : Int) := by omega
                have i1 : (k2 : Int) < (out.length : Int) := by omega
                clear hx hg c0 c1
                go_wp2_with fail
                obtain ⟨S, hSS⟩ : ∃ S : World → Prop, S = fun W => Blk W bb 30 #[.pointer (some ⟨db, 0, none⟩), .pointer (some ⟨mb, 0, none⟩), .pointer (some ⟨yb, 0, none⟩), .pointer (some ⟨rb, 0, none⟩)] ∧ W.cell? ⟨g, off + k2 * 2, none⟩ = some (.int .i64 x.row) ∧ W.cell? ⟨g, off + k2 * 2 + 1, none⟩ = some (.int .i64 x.col) := ⟨_, rfl⟩
                have q0 := fun x => (held_of hSS x).1.rd
                have l0 := fun x => (held_of hSS x).1.lt
                have q1 := fun x => (held_of hSS x).2.1
                have q2 := fun x => (held_of hSS x).2.2
                have HSS := Lib.hid hSS
                have HCL : Hid (∀ W', Below wr.heap.size wr W' → S W') := Lib.hid (fun W' hB => held_in HSS.out ⟨HTOP.out.below hB, (hB.cell HG.out).trans HC0.out, (hB.cell HG.out).trans HC1.out⟩)
                have hS0 : S wr.drew := HCL.out _ (bel_drew (bel_refl wr))
                haveI : Nonempty (Held S) := ⟨⟨_, hS0⟩⟩
                clear hSS
                refine wp_region_tree (S := S) 14 (.q 0 <| .q 1 <| .q 2 <| .q 3 <| .q 4 <| .q 5 <| .q 6 <| .q 7 <| .a 8 <| .q 9 <| .q 10 <| .q 11 <| .q 12 <| .q 13 <| .done) [] (by kernel_rfl) (by kernel_rfl) hS0 ?_
                repeat (refine tree_q (by rfl) (by rfl) (fun K hK => ?_); go_simp; refine hK _ ?_; clear hK K)
                refine tree_a (by rfl) (by rfl) (fun K hK => ?_)
                go_simp
                refine (mstate_any x.row x.col (HMM.out.below (bel_drew (bel_refl wr))) HRX.out).mono ?_
                rintro e w15 ⟨rfl, hb15⟩
                rw [HFX.out]
                have hB15 := bel_call (bel_drew (bel_refl wr)) hb15
                clear hb15
                refine hK _ _ (HCL.out _ (hB15)) ?_
                clear hK K
                repeat (refine tree_q (by rfl) (by rfl) (fun K hK => ?_); go_simp; refine hK _ ?_; clear hK K)
                refine tree_nil ?_
                clear q0 l0 q1 q2 hS0 HSS HCL
                replace hj2 := bel_call hj2 hB15
                clear hB15 HMM HTOP HG HC0 HC1
                go_wp2_with fail
                go_roundw
                case rel => exact ⟨k2 + 1, by omega, by go_num, hj2⟩
                case measure => simp [intOf]; omega
              obtain rfl : k2 = out.length := by omega
              have i3 : ¬ ((out.length : Int) < (out.length : Int)) := by omega
              replace h9 := h9.below hj2
              clear hLi11 hj2 hkl2
              go_wp2_with fail
              go_roundw
              case rel => exact ⟨k + 1, col9, pk9, f9, Es9, by omega, by go_num, h9, HUP9⟩
              case measure => simp [intOf]; omega
        | false =>
          have kb : Bx _ col gx 35 #[.int .i64 d.kd, .int .i64 d.row, .int .i64 d.col, .slice d.A d.L.length d.cap, .bool false] := kb
          have qx := kb.1.rd
          have lx := kb.1.lt
          have zx := kb.1.fz
          go_upto_region 11 with fail
          replace h := h.poke (g := gx) kb.2 hgx 4 (.bool (decide (0 < d.L.length)))
          replace kb := kb.put 4 (.bool (decide (0 < d.L.length)))
          generalize hwz : w2.setCell ⟨gx, 4, none⟩ (.bool (decide (0 < d.L.length))) = w4 at h kb ⊢
          clear hwz qx lx zx
          have kb : Bx _ col gx 35 #[.int .i64 d.kd, .int .i64 d.row, .int .i64 d.col, .slice d.A d.L.length d.cap, .bool (decide (0 < d.L.length))] := kb
          have qx := kb.1.rd
          have lx := kb.1.lt
          have zx := kb.1.fz
          go_wp2_with fail
          refine (pick_any d.kd _ hkd).mono ?_
          rintro e wp ⟨rfl, rfl⟩
          rw [show pk4 d.kd = 1 from HQ.out.symm]
          clear qx lx zx
          have hl0 := h.len
          have hE56' : (Es.length + 1) * 56 ≤ 140737488355328 := by omega
          obtain ⟨Oz, hrz, _⟩ := h.bs.rs
          have qb := h.bs.top.rd
          have lb := h.bs.top.lt
          have qx := kb.1.rd
          have lx := kb.1.lt
          have zx := kb.1.fz
          go_upto_region 12 with fail
          go_still_tail 6, (by kernel_rfl)
          go_wp2_with fail
          refine (refsOf_any d.row d.col (hrz.below (bel_drew (bel_refl _))) hE56').mono ?_
          rintro e w5 ⟨v5, rfl, hO5, hb5⟩
          obtain ⟨A5, c5, rfl, _, _, _, _⟩ := hO5.see
          replace h := h.below (bel_call (bel_drew (bel_refl _)) hb5)
          replace kb := kb.below (bel_call (bel_drew (bel_refl _)) hb5)
          obtain ⟨nr, hnr⟩ : ∃ nr, nr = (RefsOf Es (⟨d.row, d.col⟩ : Cl)).length := ⟨_, rfl⟩
          rw [← hnr]
          have HNR := Lib.hid hnr
          clear qx lx zx qb lb hb5 hO5 hrz hnr
          have qx := kb.1.rd
          have lx := kb.1.lt
          have zx := kb.1.fz
          go_upto_region 13 with fail
          replace h := h.poke (g := gx) kb.2 hgx 4 (.bool (decide (0 < nr)))
          replace kb := kb.put 4 (.bool (decide (0 < nr)))
          generalize hwz : w5.setCell ⟨gx, 4, none⟩ (.bool (decide (0 < nr))) = w6 at h kb ⊢
          clear hwz qx lx zx
          have kb : Bx _ col gx 35 #[.int .i64 d.kd, .int .i64 d.row, .int .i64 d.col, .slice d.A d.L.length d.cap, .bool (decide (0 < nr))] := kb
          have hP : ∀ W, Calls Try.prog 8 #[.int .i64 d.kd, .int .i64 4] W fun e w' => e = .returned (.int .i64 1) ∧ Below W.heap.size W w' := fun W => (pick_any d.kd W hkd).mono (fun e w' ⟨h1, h2⟩ => ⟨by rw [h1, show pk4 d.kd = 1 from HQ.out.symm], by rw [← h2]; exact bel_refl W⟩)
          have HP := Lib.hid hP
          have gx0 := kb.1.gr
          have lx0 := kb.1.lt
          clear hP
          refine wp_region_quiet_below (by kernel_rfl) (by kernel_rfl) ?_
          repeat (any_goals (first | go_big_quiet_step ((first | (go_at_call 8; exact Calls.regrown_of (HP.out _)))) | fail))
          refine wpQuiet_nil ?_
          intro w5 hw'
          have hb5 := class_below hw'
          replace h := h.below hb5
          replace kb := kb.below hb5
          clear hw' gx0 lx0 HP hb5
          have qx := kb.1.rd
          have lx := kb.1.lt
          have zx := kb.1.fz
          go_wp2_with fail
          refine (pick_any d.kd _ hkd).mono ?_
          rintro e wp ⟨rfl, rfl⟩
          rw [show pk4 d.kd = 1 from HQ.out.symm]
          go_wp2_with fail
          refine (li_does d.kd d.row d.col d.L d.A d.cap (decide (0 < nr)) h hLi hrcd hkd hT).mono ?_
          rintro e w9 ⟨rfl, col9, pk9, f9, Es9, h9, x9, hst⟩
          rw [show pk4 d.kd = 1 from HQ.out.symm] at hst
          have hut : Es9 = Es ∧ TMay Es ⟨d.row, d.col⟩ (decide (0 < nr)) f f9 pk pk9 := by
            rcases hst with ⟨hc, _⟩ | ⟨_, h1, h2⟩ | ⟨hc, _⟩ | ⟨hc, _⟩
            · cases hc
            · exact ⟨h1, h2⟩
            · cases hc
            · cases hc
          obtain ⟨rfl, htm⟩ := hut
          obtain ⟨hup, hdue⟩ := up_touch h.bs.srt h.bs.okE HUP.out (fun _ _ _ hx => hx) (fun hc => decide_eq_true (by rw [HNR.out]; exact refsOf_pos.2 hc)) (fun _ => rfl) htm
          have HUP9 := Lib.hid hup
          have HDUE := Lib.hid hdue
          have kb9 := kb.ext x9
          clear qx lx zx hst htm hup hdue x9 h kb
          go_wp2_with fail
          have hl9 := h9.len
          have hE20 : Es9.length ≤ 1048576 := by omega
          have hE56 : (Es9.length + 1) * 56 ≤ 140737488355328 := by omega
          rw [← HTK.out] at h9
          obtain ⟨Oy, hry, _⟩ := h9.bs.rs
          have HSRT := Lib.hid h9.bs.srt
          have qx := kb9.1.rd
          have lx := kb9.1.lt
          have qb := h9.bs.top.rd
          have lb := h9.bs.top.lt
          go_wp2_with fail
          go_still_tail 6, (by kernel_rfl)
          go_wp2_with fail
          refine (rs_direct yb Oy Es9 d.row d.col _ (hry.below (bel_drew (bel_refl _))) hE56).mono ?_
          rintro e w10 ⟨v10, rfl, hO10, hb10⟩
          replace h9 := h9.below (bel_call (bel_drew (bel_refl _)) hb10)
          replace kb9 := kb9.below (bel_call (bel_drew (bel_refl _)) hb10)
          replace hry := hry.below (bel_call (bel_drew (bel_refl _)) hb10)
          obtain ⟨A10, c10, rfl, _, hc10, hLi10, _⟩ := hO10.see
          have HDL : Hid (∀ y, y ∈ drs d.row d.col Es9 → f9 y = some 2) := Lib.hid (fun y hy => HDUE.out y hy)
          have HRG : Hid (∀ y, y ∈ drs d.row d.col Es9 → rngC y) := Lib.hid (fun y hy => by
            obtain ⟨p, hp, rfl⟩ := List.mem_map.1 (drc_mem (y := ⟨d.row, d.col⟩) HSRT.out hy)
            exact rngC_of_may (h9.bs.okE p hp).2)
          have hdl10 : (drs d.row d.col Es9).length ≤ Es9.length := drc_len Es9 ⟨d.row, d.col⟩
          generalize drs d.row d.col Es9 = L10 at hLi10 HDL HRG hdl10 ⊢
          have hLi10' := hLi10
          clear qx lx qb lb hb10 hO10 hLi10
          have hj := bel_refl w10
          go_wp2_with fail
          go_loopw [8] (fun s wr => ∃ k2 : Nat, k2 ≤ L10.length ∧ s = .int .i64 k2 ∧ Below w10.heap.size w10 wr) (fun s _ => L10.length - (intOf s).toNat)
          case atStart => exact ⟨0, Nat.zero_le _, rfl, hj⟩
          case round =>
            obtain ⟨k2, hk2, rfl, hj2⟩ := hrel
            clear hj
            by_cases hkl2 : k2 < L10.length
            · obtain ⟨x, hx⟩ : ∃ x, L10[k2]? = some x := ⟨_, List.getElem?_eq_getElem hkl2⟩
              obtain ⟨g, off, hAe, hg, c0, c1⟩ := cl_at (hLi10'.below hj2) hx
              subst hAe
              have HXM : Hid (x ∈ L10) := Lib.hid (List.mem_of_getElem? hx)
              have HRX : Hid (rngC ⟨x.row, x.col⟩) := Lib.hid (HRG.out x HXM.out)
              have HFX : Hid (f9 (⟨x.row, x.col⟩ : Cl) = some 2) := Lib.hid (HDL.out x HXM.out)
              have HMM := Lib.hid (h9.bs.mm.below hj2)
              have HTOP := Lib.hid (h9.bs.top.below hj2)
              have HG := Lib.hid hg
              have HC0 := Lib.hid c0
              have HC1 := Lib.hid c1
              have i0 : (0 : Int) ≤ (k2 : Int) := by omega
              have i1 : (k2 : Int) < (L10.length : Int) := by omega
              clear hx hg c0 c1
              go_wp2_with fail
              obtain ⟨S, hSS⟩ : ∃ S : World → Prop, S = fun W => Blk W bb 30 #[.pointer (some ⟨db, 0, none⟩), .pointer (some ⟨mb, 0, none⟩), .pointer (some ⟨yb, 0, none⟩), .pointer (some ⟨rb, 0, none⟩)] ∧ W.cell? ⟨g, off + k2 * 2, none⟩ = some (.int .i64 x.row) ∧ W.cell? ⟨g, off + k2 * 2 + 1, none⟩ = some (.int .i64 x.col) := ⟨_, rfl⟩
              have q0 := fun x => (held_of hSS x).1.rd
              have l0 := fun x => (held_of hSS x).1.lt
              have q1 := fun x => (held_of hSS x).2.1
              have q2 := fun x => (held_of hSS x).2.2
              have HSS := Lib.hid hSS
              have HCL : Hid (∀ W', Below wr.heap.size wr W' → S W') := Lib.hid (fun W' hB => held_in HSS.out ⟨HTOP.out.below hB, (hB.cell HG.out).trans HC0.out, (hB.cell HG.out).trans HC1.out⟩)
              have hS0 : S wr.drew := HCL.out _ (bel_drew (bel_refl wr))
              haveI : Nonempty (Held S) := ⟨⟨_, hS0⟩⟩
              clear hSS
              refine wp_region_tree (S := S) 14 (.q 0 <| .q 1 <| .q 2 <| .q 3 <| .q 4 <| .q 5 <| .q 6 <| .q 7 <| .a 8 <| .q 9 <| .q 10 <| .q 11 <| .q 12 <| .q 13 <| .done) [] (by kernel_rfl) (by kernel_rfl) hS0 ?_
              repeat (refine tree_q (by rfl) (by rfl) (fun K hK => ?_); go_simp; refine hK _ ?_; clear hK K)
              refine tree_a (by rfl) (by rfl) (fun K hK => ?_)
              go_simp
              refine (mstate_any x.row x.col (HMM.out.below (bel_drew (bel_refl wr))) HRX.out).mono ?_
              rintro e w15 ⟨rfl, hb15⟩
              rw [HFX.out]
              have hB15 := bel_call (bel_drew (bel_refl wr)) hb15
              clear hb15
              refine hK _ _ (HCL.out _ (hB15)) ?_
              clear hK K
              repeat (refine tree_q (by rfl) (by rfl) (fun K hK => ?_); go_simp; refine hK _ ?_; clear hK K)
              refine tree_nil ?_
              clear q0 l0 q1 q2 hS0 HSS HCL
              replace hj2 := bel_call hj2 hB15
              clear hB15 HMM HTOP HG HC0 HC1
              go_wp2_with fail
              go_roundw
              case rel => exact ⟨k2 + 1, by omega, by go_num, hj2⟩
              case measure => simp [intOf]; omega
            obtain rfl : k2 = L10.length := by omega
            have i2 : ¬ ((L10.length : Int) < (L10.length : Int)) := by omega
            replace h9 := h9.below hj2
            replace kb9 := kb9.below hj2
            replace hry := hry.below hj2
            have qx := kb9.1.rd
            clear hLi10' hj2 HDL HRG hkl2
            go_wp2_with fail
            refine (reached_any d.row d.col h9.bs.top hry HSRT.out hE20).mono ?_
            rintro e w11 ⟨v11, out, rfl, hO11, hR11, hl11, hb11⟩
            replace h9 := h9.below hb11
            obtain ⟨A11, c11, rfl, _, hc11, hLi11, _⟩ := hO11.see
            have HR11 := Lib.hid hR11
            have HRG : Hid (∀ y, y ∈ out → rngC y) := Lib.hid (fun y hy => by
              obtain ⟨p, hp, rfl⟩ := List.mem_map.1 (HR11.out y hy).1
              exact rngC_of_may (h9.bs.okE p hp).2)
            clear qx hb11 hO11 hR11 hc11 kb9 hry
            have hj := bel_refl w11
            go_wp2_with fail
            go_loopw [12] (fun s wr => ∃ k2 : Nat, k2 ≤ out.length ∧ s = .int .i64 k2 ∧ Below w11.heap.size w11 wr) (fun s _ => out.length - (intOf s).toNat)
            case atStart => exact ⟨0, Nat.zero_le _, rfl, hj⟩
            case round =>
              obtain ⟨k2, hk2, rfl, hj2⟩ := hrel
              clear hj
              by_cases hkl2 : k2 < out.length
              · obtain ⟨x, hx⟩ : ∃ x, out[k2]? = some x := ⟨_, List.getElem?_eq_getElem hkl2⟩
                obtain ⟨g, off, hAe, hg, c0, c1⟩ := cl_at (hLi11.below hj2) hx
                subst hAe
                have HXM : Hid (x ∈ out) := Lib.hid (List.mem_of_getElem? hx)
                have HRX : Hid (rngC ⟨x.row, x.col⟩) := Lib.hid (HRG.out x HXM.out)
                obtain ⟨u, hfx, hu⟩ : ∃ u, f9 (⟨x.row, x.col⟩ : Cl) = some u ∧ u ≠ 0 := by
                  have h1 : ¬ cln (f9 x) := up_reach (c := ⟨d.row, d.col⟩) HUP9.out HDUE.out (HR11.out x HXM.out).2
                  cases hf : f9 x with
                  | none => rw [hf] at h1; exact absurd rfl h1
                  | some u => exact ⟨u, rfl, fun e => by rw [hf, e] at h1; exact h1 rfl⟩
                have HFX := Lib.hid hfx
                have hq0 : (u == 0) = false := by rw [beq_eq_false_iff_ne]; exact hu
                have hq1 : decide (u = 0) = false := decide_eq_false hu
                clear hfx
                have HMM := Lib.hid (h9.bs.mm.below hj2)
                have HTOP := Lib.hid (h9.bs.top.below hj2)
                have HG := Lib.hid hg
                have HC0 := Lib.hid c0
                have HC1 := Lib.hid c1
                have i0 : (0 : Int) ≤ (k2 : Int) := by omega
                have i1 : (k2 : Int) < (out.length : Int) := by omega
                clear hx hg c0 c1
                go_wp2_with fail
                obtain ⟨S, hSS⟩ : ∃ S : World → Prop, S = fun W => Blk W bb 30 #[.pointer (some ⟨db, 0, none⟩), .pointer (some ⟨mb, 0, none⟩), .pointer (some ⟨yb, 0, none⟩), .pointer (some ⟨rb, 0, none⟩)] ∧ W.cell? ⟨g, off + k2 * 2, none⟩ = some (.int .i64 x.row) ∧ W.cell? ⟨g, off + k2 * 2 + 1, none⟩ = some (.int .i64 x.col) := ⟨_, rfl⟩
                have q0 := fun x => (held_of hSS x).1.rd
                have l0 := fun x => (held_of hSS x).1.lt
                have q1 := fun x => (held_of hSS x).2.1
                have q2 := fun x => (held_of hSS x).2.2
                have HSS := Lib.hid hSS
                have HCL : Hid (∀ W', Below wr.heap.size wr W' → S W') := Lib.hid (fun W' hB => held_in HSS.out ⟨HTOP.out.below hB, (hB.cell HG.out).trans HC0.out, (hB.cell HG.out).trans HC1.out⟩)
                have hS0 : S wr.drew := HCL.out _ (bel_drew (bel_refl wr))
                haveI : Nonempty (Held S) := ⟨⟨_, hS0⟩⟩
                clear hSS
                refine wp_region_tree (S := S) 14 (.q 0 <| .q 1 <| .q 2 <| .q 3 <| .q 4 <| .q 5 <| .q 6 <| .q 7 <| .a 8 <| .q 9 <| .q 10 <| .q 11 <| .q 12 <| .q 13 <| .done) [] (by kernel_rfl) (by kernel_rfl) hS0 ?_
                repeat (refine tree_q (by rfl) (by rfl) (fun K hK => ?_); go_simp; refine hK _ ?_; clear hK K)
                refine tree_a (by rfl) (by rfl) (fun K hK => ?_)
                go_simp
                refine (mstate_any x.row x.col (HMM.out.below (bel_drew (bel_refl wr))) HRX.out).mono ?_
                rintro e w15 ⟨rfl, hb15⟩
                rw [HFX.out]
                have hB15 := bel_call (bel_drew (bel_refl wr)) hb15
                clear hb15
                refine hK _ _ (HCL.out _ (hB15)) ?_
                clear hK K
                repeat (refine tree_q (by rfl) (by rfl) (fun K hK => ?_); go_simp; refine hK _ ?_; clear hK K)
                refine tree_nil ?_
                clear q0 l0 q1 q2 hS0 HSS HCL
                replace hj2 := bel_call hj2 hB15
                clear hB15 HMM HTOP HG HC0 HC1
                go_wp2_with fail
                go_roundw
                case rel => exact ⟨k2 + 1, by omega, by go_num, hj2⟩
                case measure => simp [intOf]; omega
              obtain rfl : k2 = out.length := by omega
              have i3 : ¬ ((out.length : Int) < (out.length : Int)) := by omega
              replace h9 := h9.below hj2
              clear hLi11 hj2 hkl2
              go_wp2_with fail
              go_roundw
              case rel => exact ⟨k + 1, col9, pk9, f9, Es9, by omega, by go_num, h9, HUP9⟩
              case measure => simp [intOf]; omega
      · cases fm0 with
        | true =>
          have kb : Bx _ col gx 35 #[.int .i64 d.kd, .int .i64 d.row, .int .i64 d.col, .slice d.A d.L.length d.cap, .bool true] := kb
          have qx := kb.1.rd
          have lx := kb.1.lt
          have zx := kb.1.fz
          go_upto_region 10 with fail
          replace h := h.poke (g := gx) kb.2 hgx 0 (.int .i64 3)
          replace kb := kb.put 0 (.int .i64 3)
          generalize hwz : w2.setCell ⟨gx, 0, none⟩ (.int .i64 3) = w3 at h kb ⊢
          clear hwz qx lx zx
          have kb : Bx _ col gx 35 #[.int .i64 3, .int .i64 d.row, .int .i64 d.col, .slice d.A d.L.length d.cap, .bool true] := kb
          have qx := kb.1.rd
          have lx := kb.1.lt
          have zx := kb.1.fz
          go_upto_region 11 with fail
          replace h := h.poke (g := gx) kb.2 hgx 4 (.bool true)
          replace kb := kb.put 4 (.bool true)
          generalize hwz : w3.setCell ⟨gx, 4, none⟩ (.bool true) = w4 at h kb ⊢
          clear hwz qx lx zx
          have kb : Bx _ col gx 35 #[.int .i64 3, .int .i64 d.row, .int .i64 d.col, .slice d.A d.L.length d.cap, .bool true] := kb
          have qx := kb.1.rd
          have lx := kb.1.lt
          have zx := kb.1.fz
          go_wp2_with fail
          refine (pick_any 3 _ (show i64P 3 from by unfold i64P; decide)).mono ?_
          rintro e wp ⟨rfl, rfl⟩
          rw [show pk4 3 = 3 from (by decide)]
          clear qx lx zx
          go_upto_region 13 with fail
          have hP : ∀ W, Calls Try.prog 8 #[.int .i64 3, .int .i64 4] W fun e w' => e = .returned (.int .i64 3) ∧ Below W.heap.size W w' := fun W => (pick_any 3 W (show i64P 3 from by unfold i64P; decide)).mono (fun e w' ⟨h1, h2⟩ => ⟨by rw [h1, show pk4 3 = 3 from (by decide)], by rw [← h2]; exact bel_refl W⟩)
          have HP := Lib.hid hP
          have gx0 := kb.1.gr
          have lx0 := kb.1.lt
          clear hP
          refine wp_region_quiet_below (by kernel_rfl) (by kernel_rfl) ?_
          repeat (any_goals (first | go_big_quiet_step ((first | (go_at_call 8; exact Calls.regrown_of (HP.out _)))) | fail))
          refine wpQuiet_nil ?_
          intro w5 hw'
          have hb5 := class_below hw'
          replace h := h.below hb5
          replace kb := kb.below hb5
          clear hw' gx0 lx0 HP hb5
          have qx := kb.1.rd
          have lx := kb.1.lt
          have zx := kb.1.fz
          go_wp2_with fail
          refine (pick_any 3 _ (show i64P 3 from by unfold i64P; decide)).mono ?_
          rintro e wp ⟨rfl, rfl⟩
          rw [show pk4 3 = 3 from (by decide)]
          go_wp2_with fail
          refine (li_does 3 d.row d.col d.L d.A d.cap true h hLi hrcd (show i64P 3 from by unfold i64P; decide) hT).mono ?_
          rintro e w9 ⟨rfl, col9, pk9, f9, Es9, h9, _, hst⟩
          rw [show pk4 3 = 3 from (by decide)] at hst
          have HUP9 : Hid (UpC Es9 f9) := Lib.hid (by
            rcases hst with ⟨hc, _⟩ | ⟨hc, _⟩ | ⟨hc, _⟩ | ⟨_, rfl, rfl, _⟩
            · cases hc
            · cases hc
            · cases hc
            · exact up_all _)
          rw [← HTK.out] at h9
          clear qx lx zx hst h kb
          go_wp2_with fail
          go_roundw
          case rel => exact ⟨k + 1, col9, pk9, f9, Es9, by omega, by go_num, h9, HUP9⟩
          case measure => simp [intOf]; omega
        | false =>
          have kb : Bx _ col gx 35 #[.int .i64 d.kd, .int .i64 d.row, .int .i64 d.col, .slice d.A d.L.length d.cap, .bool false] := kb
          have qx := kb.1.rd
          have lx := kb.1.lt
          have zx := kb.1.fz
          go_upto_region 10 with fail
          replace h := h.poke (g := gx) kb.2 hgx 0 (.int .i64 3)
          replace kb := kb.put 0 (.int .i64 3)
          generalize hwz : w2.setCell ⟨gx, 0, none⟩ (.int .i64 3) = w3 at h kb ⊢
          clear hwz qx lx zx
          have kb : Bx _ col gx 35 #[.int .i64 3, .int .i64 d.row, .int .i64 d.col, .slice d.A d.L.length d.cap, .bool false] := kb
          have qx := kb.1.rd
          have lx := kb.1.lt
          have zx := kb.1.fz
          go_upto_region 11 with fail
          replace h := h.poke (g := gx) kb.2 hgx 4 (.bool (decide (0 < d.L.length)))
          replace kb := kb.put 4 (.bool (decide (0 < d.L.length)))
          generalize hwz : w3.setCell ⟨gx, 4, none⟩ (.bool (decide (0 < d.L.length))) = w4 at h kb ⊢
          clear hwz qx lx zx
          have kb : Bx _ col gx 35 #[.int .i64 3, .int .i64 d.row, .int .i64 d.col, .slice d.A d.L.length d.cap, .bool (decide (0 < d.L.length))] := kb
          have qx := kb.1.rd
          have lx := kb.1.lt
          have zx := kb.1.fz
          go_wp2_with fail
          refine (pick_any 3 _ (show i64P 3 from by unfold i64P; decide)).mono ?_
          rintro e wp ⟨rfl, rfl⟩
          rw [show pk4 3 = 3 from (by decide)]
          clear qx lx zx
          go_upto_region 13 with fail
          have hP : ∀ W, Calls Try.prog 8 #[.int .i64 3, .int .i64 4] W fun e w' => e = .returned (.int .i64 3) ∧ Below W.heap.size W w' := fun W => (pick_any 3 W (show i64P 3 from by unfold i64P; decide)).mono (fun e w' ⟨h1, h2⟩ => ⟨by rw [h1, show pk4 3 = 3 from (by decide)], by rw [← h2]; exact bel_refl W⟩)
          have HP := Lib.hid hP
          have gx0 := kb.1.gr
          have lx0 := kb.1.lt
          clear hP
          refine wp_region_quiet_below (by kernel_rfl) (by kernel_rfl) ?_
          repeat (any_goals (first | go_big_quiet_step ((first | (go_at_call 8; exact Calls.regrown_of (HP.out _)))) | fail))
          refine wpQuiet_nil ?_
          intro w5 hw'
          have hb5 := class_below hw'
          replace h := h.below hb5
          replace kb := kb.below hb5
          clear hw' gx0 lx0 HP hb5
          have qx := kb.1.rd
          have lx := kb.1.lt
          have zx := kb.1.fz
          go_wp2_with fail
          refine (pick_any 3 _ (show i64P 3 from by unfold i64P; decide)).mono ?_
          rintro e wp ⟨rfl, rfl⟩
          rw [show pk4 3 = 3 from (by decide)]
          go_wp2_with fail
          refine (li_does 3 d.row d.col d.L d.A d.cap (decide (0 < d.L.length)) h hLi hrcd (show i64P 3 from by unfold i64P; decide) hT).mono ?_
          rintro e w9 ⟨rfl, col9, pk9, f9, Es9, h9, _, hst⟩
          rw [show pk4 3 = 3 from (by decide)] at hst
          have HUP9 : Hid (UpC Es9 f9) := Lib.hid (by
            rcases hst with ⟨hc, _⟩ | ⟨hc, _⟩ | ⟨hc, _⟩ | ⟨_, rfl, rfl, _⟩
            · cases hc
            · cases hc
            · cases hc
            · exact up_all _)
          rw [← HTK.out] at h9
          clear qx lx zx hst h kb
          go_wp2_with fail
          go_roundw
          case rel => exact ⟨k + 1, col9, pk9, f9, Es9, by omega, by go_num, h9, HUP9⟩
          case measure => simp [intOf]; omega
      · cases fm0 with
        | true =>
          have kb : Bx _ col gx 35 #[.int .i64 d.kd, .int .i64 d.row, .int .i64 d.col, .slice d.A d.L.length d.cap, .bool true] := kb
          have qx := kb.1.rd
          have lx := kb.1.lt
          have zx := kb.1.fz
          go_upto_region 11 with fail
          replace h := h.poke (g := gx) kb.2 hgx 4 (.bool true)
          replace kb := kb.put 4 (.bool true)
          generalize hwz : w2.setCell ⟨gx, 4, none⟩ (.bool true) = w4 at h kb ⊢
          clear hwz qx lx zx
          have kb : Bx _ col gx 35 #[.int .i64 d.kd, .int .i64 d.row, .int .i64 d.col, .slice d.A d.L.length d.cap, .bool true] := kb
          have qx := kb.1.rd
          have lx := kb.1.lt
          have zx := kb.1.fz
          go_wp2_with fail
          refine (pick_any d.kd _ hkd).mono ?_
          rintro e wp ⟨rfl, rfl⟩
          rw [show pk4 d.kd = 3 from HQ.out.symm]
          clear qx lx zx
          go_upto_region 13 with fail
          have hP : ∀ W, Calls Try.prog 8 #[.int .i64 d.kd, .int .i64 4] W fun e w' => e = .returned (.int .i64 3) ∧ Below W.heap.size W w' := fun W => (pick_any d.kd W hkd).mono (fun e w' ⟨h1, h2⟩ => ⟨by rw [h1, show pk4 d.kd = 3 from HQ.out.symm], by rw [← h2]; exact bel_refl W⟩)
          have HP := Lib.hid hP
          have gx0 := kb.1.gr
          have lx0 := kb.1.lt
          clear hP
          refine wp_region_quiet_below (by kernel_rfl) (by kernel_rfl) ?_
          repeat (any_goals (first | go_big_quiet_step ((first | (go_at_call 8; exact Calls.regrown_of (HP.out _)))) | fail))
          refine wpQuiet_nil ?_
          intro w5 hw'
          have hb5 := class_below hw'
          replace h := h.below hb5
          replace kb := kb.below hb5
          clear hw' gx0 lx0 HP hb5
          have qx := kb.1.rd
          have lx := kb.1.lt
          have zx := kb.1.fz
          go_wp2_with fail
          refine (pick_any d.kd _ hkd).mono ?_
          rintro e wp ⟨rfl, rfl⟩
          rw [show pk4 d.kd = 3 from HQ.out.symm]
          go_wp2_with fail
          refine (li_does d.kd d.row d.col d.L d.A d.cap true h hLi hrcd hkd hT).mono ?_
          rintro e w9 ⟨rfl, col9, pk9, f9, Es9, h9, _, hst⟩
          rw [show pk4 d.kd = 3 from HQ.out.symm] at hst
          have HUP9 : Hid (UpC Es9 f9) := Lib.hid (by
            rcases hst with ⟨hc, _⟩ | ⟨hc, _⟩ | ⟨hc, _⟩ | ⟨_, rfl, rfl, _⟩
            · cases hc
            · cases hc
            · cases hc
            · exact up_all _)
          rw [← HTK.out] at h9
          clear qx lx zx hst h kb
          go_wp2_with fail
          go_roundw
          case rel => exact ⟨k + 1, col9, pk9, f9, Es9, by omega, by go_num, h9, HUP9⟩
          case measure => simp [intOf]; omega
        | false =>
          have kb : Bx _ col gx 35 #[.int .i64 d.kd, .int .i64 d.row, .int .i64 d.col, .slice d.A d.L.length d.cap, .bool false] := kb
          have qx := kb.1.rd
          have lx := kb.1.lt
          have zx := kb.1.fz
          go_upto_region 11 with fail
          replace h := h.poke (g := gx) kb.2 hgx 4 (.bool (decide (0 < d.L.length)))
          replace kb := kb.put 4 (.bool (decide (0 < d.L.length)))
          generalize hwz : w2.setCell ⟨gx, 4, none⟩ (.bool (decide (0 < d.L.length))) = w4 at h kb ⊢
          clear hwz qx lx zx
          have kb : Bx _ col gx 35 #[.int .i64 d.kd, .int .i64 d.row, .int .i64 d.col, .slice d.A d.L.length d.cap, .bool (decide (0 < d.L.length))] := kb
          have qx := kb.1.rd
          have lx := kb.1.lt
          have zx := kb.1.fz
          go_wp2_with fail
          refine (pick_any d.kd _ hkd).mono ?_
          rintro e wp ⟨rfl, rfl⟩
          rw [show pk4 d.kd = 3 from HQ.out.symm]
          clear qx lx zx
          go_upto_region 13 with fail
          have hP : ∀ W, Calls Try.prog 8 #[.int .i64 d.kd, .int .i64 4] W fun e w' => e = .returned (.int .i64 3) ∧ Below W.heap.size W w' := fun W => (pick_any d.kd W hkd).mono (fun e w' ⟨h1, h2⟩ => ⟨by rw [h1, show pk4 d.kd = 3 from HQ.out.symm], by rw [← h2]; exact bel_refl W⟩)
          have HP := Lib.hid hP
          have gx0 := kb.1.gr
          have lx0 := kb.1.lt
          clear hP
          refine wp_region_quiet_below (by kernel_rfl) (by kernel_rfl) ?_
          repeat (any_goals (first | go_big_quiet_step ((first | (go_at_call 8; exact Calls.regrown_of (HP.out _)))) | fail))
          refine wpQuiet_nil ?_
          intro w5 hw'
          have hb5 := class_below hw'
          replace h := h.below hb5
          replace kb := kb.below hb5
          clear hw' gx0 lx0 HP hb5
          have qx := kb.1.rd
          have lx := kb.1.lt
          have zx := kb.1.fz
          go_wp2_with fail
          refine (pick_any d.kd _ hkd).mono ?_
          rintro e wp ⟨rfl, rfl⟩
          rw [show pk4 d.kd = 3 from HQ.out.symm]
          go_wp2_with fail
          refine (li_does d.kd d.row d.col d.L d.A d.cap (decide (0 < d.L.length)) h hLi hrcd hkd hT).mono ?_
          rintro e w9 ⟨rfl, col9, pk9, f9, Es9, h9, _, hst⟩
          rw [show pk4 d.kd = 3 from HQ.out.symm] at hst
          have HUP9 : Hid (UpC Es9 f9) := Lib.hid (by
            rcases hst with ⟨hc, _⟩ | ⟨hc, _⟩ | ⟨hc, _⟩ | ⟨_, rfl, rfl, _⟩
            · cases hc
            · cases hc
            · cases hc
            · exact up_all _)
          rw [← HTK.out] at h9
          clear qx lx zx hst h kb
          go_wp2_with fail
          go_roundw
          case rel => exact ⟨k + 1, col9, pk9, f9, Es9, by omega, by go_num, h9, HUP9⟩
          case measure => simp [intOf]; omega
    obtain rfl : k = D.length := by omega
    have i1 : ¬ ((D.length : Int) < (D.length : Int)) := by omega
    have hWf := h.bel
    go_wp2_with fail
    refine (lives_any _).mono ?_
    rintro e w20 ⟨rfl, hb20⟩
    have hW20 := bel_call hWf hb20
    clear hb20
    go_wp2_with fail
    go_ret
    exact ⟨rfl, hW20⟩
end Go.Proofs.Ytdionganlmnlkaa

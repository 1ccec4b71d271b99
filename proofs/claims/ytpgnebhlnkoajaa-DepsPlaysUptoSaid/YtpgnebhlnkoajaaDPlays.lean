/-
  Deps: the walk of DepsPlays. Conditions: the deeds and cells lie as said; they hold no more than the bound.
-/
import Derived.Test.YtpgnebhlnkoajaaDTot
import Derived.Test.YtpgnebhlnkoajaaDGiv
import Derived.Test.YtpgnebhlnkoajaaRS
import Derived.Test.YtpgnebhlnkoajaaDOpC
namespace Go.Proofs.Ytpgnebhlnkoajaa
open Go.ChangeShapes Go.WideShapes Go.ChangeAt Go.RowKit Go.Deep
attribute [local go_sem] Cls

theorem ol_blk0 {α : Type} {K : Knd α} {w : World} {B n c g : Nat} {L : List α} (h : OL K w B (.slice (some ⟨g, 0, none⟩) n c) L) : ∃ cur : Array Value, Blk w g K.t cur ∧ cur.size = c * K.size ∧ B ≤ g ∧ c ≤ maxLen := by
  rcases h.2 with ⟨h2, _⟩ | ⟨g', cap, cur, hv, hB, hg, hn, hm, hs, ht⟩
  · cases h2
  · injection hv with e1 e2 e3
    injection e1 with e1
    injection e1 with e1
    subst e1 e3
    exact ⟨cur, hg, by simpa using hs, hB, hm⟩
theorem drs_len0 (row col : Int) : ∀ (L : List Ed) (out : List Cl), (L.foldl (fun o e => ovS row col o (toP e)) out).length ≤ out.length + L.length
  | [], out => by simp
  | p :: L, out => by
    have h := drs_len0 row col L (ovS row col out (toP p))
    have h2 : (ovS row col out (toP p)).length ≤ out.length + 1 := by
      unfold ovS
      split
      · simp
      · omega
    rw [List.foldl_cons, List.length_cons]
    omega
/-- What given has made: the list, and its block. -/
theorem giv_own {w w' : World} {g : Nat} {L : List Rf} (h : OL KF w' w.heap.size (.slice (some ⟨g, 0, none⟩) (L.length + 2) (L.length + 2)) (L ++ [zRf, zRf])) : ∃ cur : Array Value, Lies KF w' (some ⟨g, 0, none⟩) L ∧ Blk w' g 49 cur ∧ cur.size = (L.length + 2) * 5 ∧ w.heap.size ≤ g ∧ g < w'.heap.size := by
  obtain ⟨cur, h1, h2, h3, _⟩ := ol_blk0 h
  obtain ⟨A', c', hv, _, _, h5, _⟩ := h.see
  injection hv with hv _ _
  rw [← hv] at h5
  have h6 := h5.take L.length
  rw [List.take_left] at h6
  exact ⟨cur, h6, h1, h2, h3, h1.lt⟩
theorem frm_row {w w' : World} {g : Nat} (h : w.grownBy w' (some g)) : Frm (fun z => z = g) w w' := ⟨h.os, h.tape, h.output, h.size, fun k hk hn => h.block k hk (fun e => hn (by cases e; rfl))⟩
set_option maxHeartbeats 6400000 in
set_option maxRecDepth 100000 in
theorem depsPlays_walk (A : Option Addr) (cap : Nat) (D : List DdV) (Ac : Option Addr) (capc : Nat) (C : List Cl) (w : World) (hS : DeedsAt w A D) (hC : CellsAt w Ac C) (htot : tot D ≤ 1048576) (hCl : C.length ≤ 1048576) :
    Calls Try.prog 3 #[.slice A D.length cap, .slice Ac C.length capc] w fun e w' => e = .returned (.bool true) ∧ Below w.heap.size w w' := by
  have hDl := tot_len D
  go_enter Try.func3, Try.ntmps3
  go_wp2_with fail
  refine (ds_new _).mono ?_
  rintro e w1 ⟨db, O0, rfl, hP0, hO0, hb1⟩
  have hW0 := bel_alloc hb1 (.cells #[.slice none 0 0] 29)
  have hPa := hP0.below (bel_alloc (bel_refl w1) (.cells #[.slice none 0 0] 29))
  have hRa := rs_new (w := w1)
  have hX0 : ∀ z, O0 z → ¬ z = w1.heap.size := fun z hz e => by have := hP0.lt z hz; omega
  have hy1 : ∀ z, z = w1.heap.size → w.heap.size ≤ z := fun z e => by rw [e]; exact hb1.size
  go_wp2_with fail
  generalize hwz : w1.alloc (.cells #[.slice none 0 0] 29) = w2 at hW0 hPa hRa ⊢
  generalize w1.heap.size = yb at hRa hX0 hy1 ⊢
  clear hwz hP0 hb1
  go_loopw [7] (fun s7 wr => ∃ (k : Nat) (O Oy : Nat → Prop) (Es : List Ed), k ≤ D.length ∧ s7 = .int .i64 k ∧ DS wr db (2 * tot (D.take k)) O Es ∧ RS wr yb Oy Es ∧ (∀ z, O z → ¬ Oy z) ∧ (∀ z, O z → w.heap.size ≤ z) ∧ (∀ z, Oy z → w.heap.size ≤ z) ∧ Below w.heap.size w wr) (fun s7 _ => D.length - (intOf s7).toNat)
  case atStart => exact ⟨0, O0, _, [], Nat.zero_le _, rfl, hPa, hRa, hX0, hO0, hy1, hW0⟩
  case round =>
    obtain ⟨k, O, Oy, Ls, hk, rfl, hP, hR, hX, hO, hOy, hW⟩ := hrel
    clear hPa hRa hO0 hW0 hX0 hy1
    by_cases hkl : k < D.length
    · obtain ⟨d, hd⟩ : ∃ d, D[k]? = some d := ⟨_, List.getElem?_eq_getElem hkl⟩
      obtain ⟨b1, o1, hA1, hb1, ⟨c0, c1, c2⟩, hLi, hrc⟩ := hS k d hd
      subst hA1
      have HC0 := Lib.hid c0
      have HC1 := Lib.hid c1
      have HC2 := Lib.hid c2
      have HRC := Lib.hid hrc
      replace c0 := (hW.cell hb1).trans c0
      replace c1 := (hW.cell hb1).trans c1
      replace c2 := (hW.cell hb1).trans c2
      have htk := tot_take hd
      have htl := tot_le D (k + 1)
      have hPl := hP.len
      have i0 : (0 : Int) ≤ (k : Int) := by omega
      have i1 : (k : Int) < (D.length : Int) := by omega
      clear hd hrc
      go_wp2_with fail
      refine (dgiven_any d.L d.A d.cap _ (hLi.below hW) (by omega)).mono ?_
      rintro e w3 ⟨g, rfl, hOL, hb3⟩
      obtain ⟨cur, hgL, hgB, hgs, hg0, hg1⟩ := giv_own hOL
      have hgO : ∀ z, O z → ¬ z = g := fun z hz e => by have := hP.lt z hz; omega
      have hgOy : ∀ z, Oy z → ¬ z = g := fun z hz e => by have := hR.lt z hz; omega
      have HSRT := Lib.hid hP.srt
      replace hP := hP.below hb3
      replace hR := hR.below hb3
      have hW3 := bel_call hW hb3
      clear hOL
      go_wp2_with fail
      obtain ⟨S, hSS⟩ : ∃ S : World → Prop, S = fun W => W.cell? ⟨b1, o1 + k * 3, none⟩ = some (.int .i64 d.row) ∧ W.cell? ⟨b1, o1 + k * 3 + 1, none⟩ = some (.int .i64 d.col) ∧ W.cell? ⟨b1, o1 + k * 3 + 2, none⟩ = some (.slice d.A d.L.length d.cap) := ⟨_, rfl⟩
      have q0 := fun x => (held_of hSS x).1
      have q1 := fun x => (held_of hSS x).2.1
      have q2 := fun x => (held_of hSS x).2.2
      have HSS := Lib.hid hSS
      have HCL : Hid (∀ W', Below w.heap.size w W' → S W') := Lib.hid (fun W' hB => held_in HSS.out ⟨(hB.cell hb1).trans HC0.out, (hB.cell hb1).trans HC1.out, (hB.cell hb1).trans HC2.out⟩)
      have hS0 : S w3.drew := HCL.out _ (bel_drew hW3)
      haveI : Nonempty (Held S) := ⟨⟨_, hS0⟩⟩
      clear hSS
      refine wp_region_tree (S := S) 21 (.q 0 <| .q 1 <| .q 2 <| .q 3 <| .q 4 <| .q 5 <| .q 6 <| .q 8 <| .q 9 <| .q 10 <| .q 11 <| .q 12 <| .q 13 <| .q 14 <| .q 15 <| .q 16 <| .q 17 <| .q 18 <| .a 7 <| .a 19 <| .q 20 <| .done) [] (by kernel_rfl) (by kernel_rfl) hS0 ?_
      repeat (refine tree_q (by rfl) (by rfl) (fun K hK => ?_); go_simp; refine hK _ ?_; clear hK K)
      refine tree_a (by rfl) (by rfl) (fun K hK => ?_)
      go_simp
      refine (ds_set db _ O Ls d.row d.col d.L _ _ _ (hP.below (bel_drew (bel_refl w3))) (hgL.below (bel_drew (bel_refl w3))) (fun x hx b off hb hz => hgO b hz (by injection hb with hb; injection hb with hb _ _; exact hb.symm)) (by omega)).mono ?_
      rintro e w4 ⟨O4, rfl, hP4, hF4, hO4⟩
      have hR3 := hR.below (bel_drew (bel_refl w3))
      have hR4 := hR3.frm hF4 (fun z hz ho => hX z ho hz)
      have kB4 := hF4.blk hgB.drew (fun h => hgO g h rfl)
      have hW4 := hF4.bel (bel_drew hW3) (fun z hz => hO z hz)
      have hX4 : ∀ z, O4 z → ¬ Oy z := fun z hz hy => (hO4 z hz).elim (fun h => hX z h hy) (fun h => by have := hR3.lt z hy; omega)
      have hg4 : g < w3.drew.heap.size := hg1
      have hgO4 : ∀ z, O4 z → ¬ z = g := fun z hz e => (hO4 z hz).elim (fun h => hgO z h e) (fun h => by omega)
      have hO4' : ∀ z, O4 z → w.heap.size ≤ z := fun z hz => (hO4 z hz).elim (hO z) (fun h => Nat.le_trans hW3.size h)
      clear hO4 hgO hX hO hF4 hP
      refine hK _ _ (HCL.out _ (hW4)) ?_
      clear hK K
      repeat (refine tree_q (by rfl) (by rfl) (fun K hK => ?_); go_simp; refine hK _ ?_; clear hK K)
      refine tree_a (by rfl) (by rfl) (fun K hK => ?_)
      go_simp
      refine (rs_set yb Oy Ls d.row d.col d.L d.A d.cap _ hR4 HSRT.out (hLi.below hW4) (by omega)).mono ?_
      rintro e w5 ⟨Oy5, rfl, hR5, hF5, hOy5⟩
      have hP5 := hP4.frm hF5 (fun z hz ho => hX4 z hz ho)
      have kB5 := hF5.blk kB4 (fun h => hgOy g h rfl)
      have hW5 := hF5.bel hW4 (fun z hz => hOy z hz)
      have hX5 : ∀ z, O4 z → ¬ Oy5 z := fun z hz hy => (hOy5 z hy).elim (fun h => hX4 z hz h) (fun h => by have := hP4.lt z hz; omega)
      have hgOy5 : ∀ z, Oy5 z → ¬ z = g := fun z hz e => (hOy5 z hz).elim (fun h => hgOy z h e) (fun h => by have := kB4.lt; omega)
      have hOy5' : ∀ z, Oy5 z → w.heap.size ≤ z := fun z hz => (hOy5 z hz).elim (hOy z) (fun h => Nat.le_trans hW4.size h)
      clear hOy5 hgOy hX4 hOy hF5 hP4 hR4 hR3 kB4
      refine hK _ _ (HCL.out _ (hW5)) ?_
      clear hK K
      repeat (refine tree_q (by rfl) (by rfl) (fun K hK => ?_); go_simp; refine hK _ ?_; clear hK K)
      refine tree_nil ?_
      clear q0 q1 q2 hS0 HSS HCL
      replace hP5 := hP5.mono (N' := 2 * tot (D.take (k + 1))) (by omega)
      generalize setD ⟨d.row, d.col⟩ d.L Ls = Es at hP5 hR5
      have hEl := hP5.len
      clear hPl
      go_wp2_with fail
      refine (dspoilt_any g _ _ cur _ kB5 hgs (by omega)).mono ?_
      rintro e w6 ⟨rfl, hg6⟩
      have hF6 := frm_row hg6
      have hP6 := hP5.frm hF6 hgO4
      have hR6 := hR5.frm hF6 hgOy5
      have hW6 := hF6.bel hW5 (fun z hz => by rw [hz]; exact Nat.le_trans hW.size hg0)
      clear hF6 hg6 hP5 hR5 hW5 kB5 hgO4 hgOy5 hgB hgL hgs hg0 hg1 hg4 hR hW4 hW3
      by_cases hkc : k < C.length
      · obtain ⟨c, hc⟩ : ∃ c, C[k]? = some c := ⟨_, List.getElem?_eq_getElem hkc⟩
        obtain ⟨bc, oc, hAc, hbc, p0, p1⟩ := cl_at hC.1 hc
        subst hAc
        have HP0 := Lib.hid p0
        have HP1 := Lib.hid p1
        have HRC2 := Lib.hid (hC.2 c (List.mem_of_getElem? hc))
        have j1 : (k : Int) < (C.length : Int) := by omega
        clear p0 p1 hc
        go_wp2_with fail
        obtain ⟨S, hSS⟩ : ∃ S : World → Prop, S = fun W => W.cell? ⟨bc, oc + k * 2, none⟩ = some (.int .i64 c.row) ∧ W.cell? ⟨bc, oc + k * 2 + 1, none⟩ = some (.int .i64 c.col) := ⟨_, rfl⟩
        have q0 := fun x => (held_of hSS x).1
        have q1 := fun x => (held_of hSS x).2
        have HSS := Lib.hid hSS
        have HCL : Hid (∀ W', Below w.heap.size w W' → S W') := Lib.hid (fun W' hB => held_in HSS.out ⟨(hB.cell hbc).trans HP0.out, (hB.cell hbc).trans HP1.out⟩)
        have hS0 : S w6.drew := HCL.out _ (bel_drew hW6)
        haveI : Nonempty (Held S) := ⟨⟨_, hS0⟩⟩
        clear hSS
        refine wp_region_tree (S := S) 14 (.q 0 <| .q 1 <| .q 2 <| .q 3 <| .q 4 <| .q 6 <| .q 7 <| .q 8 <| .q 9 <| .q 10 <| .a 5 <| .a 11 <| .a 12 <| .q 13 <| .done) [] (by kernel_rfl) (by kernel_rfl) hS0 ?_
        repeat (refine tree_q (by rfl) (by rfl) (fun K hK => ?_); go_simp; refine hK _ ?_; clear hK K)
        refine tree_a (by rfl) (by rfl) (fun K hK => ?_)
        go_simp
        refine (ds_direct db _ O4 Es c.row c.col _ (hP6.below (bel_drew (bel_refl w6))) HRC2.out (by omega)).mono ?_
        rintro e w7a ⟨v1, rfl, hL1, hba⟩
        obtain ⟨A1, c1', rfl, _, _, hL1, _⟩ := hL1.see
        have hBa := bel_call (bel_drew (bel_refl w6)) hba
        have hWa := bel_call hW6 hBa
        refine hK _ _ (HCL.out _ (hWa)) ?_
        clear hK K
        repeat (refine tree_q (by rfl) (by rfl) (fun K hK => ?_); go_simp; refine hK _ ?_; clear hK K)
        refine tree_a (by rfl) (by rfl) (fun K hK => ?_)
        go_simp
        refine (rs_direct yb Oy5 Es c.row c.col _ (hR6.below hBa) (by omega)).mono ?_
        rintro e w7b ⟨v2, rfl, hL2, hbb⟩
        obtain ⟨A2, c2', rfl, _, _, hL2, _⟩ := hL2.see
        have hBb := bel_call hBa hbb
        have hWb := bel_call hW6 hBb
        refine hK _ _ (HCL.out _ (hWb)) ?_
        clear hK K
        repeat (refine tree_q (by rfl) (by rfl) (fun K hK => ?_); go_simp; refine hK _ ?_; clear hK K)
        refine tree_a (by rfl) (by rfl) (fun K hK => ?_)
        go_simp
        refine (dcells_any (drs c.row c.col Es) A1 A2 c1' c2' _ (hL1.below hbb) hL2 (by have := drs_len0 c.row c.col Es []; unfold drs; simp at this; omega)).mono ?_
        rintro e w7c ⟨rfl, hbc⟩
        have hBc := bel_call hBb hbc
        have hWc := bel_call hW6 hBc
        refine hK _ _ (HCL.out _ (hWc)) ?_
        clear hK K
        repeat (refine tree_q (by rfl) (by rfl) (fun K hK => ?_); go_simp; refine hK _ ?_; clear hK K)
        refine tree_nil ?_
        clear q0 q1 hS0 HSS HCL
        replace hP6 := hP6.below hBc
        replace hR6 := hR6.below hBc
        replace hW6 := hWc
        clear hBa hBb hBc hWa hWb hWc hba hbb hbc hL1 hL2
        go_wp2_with fail
        obtain ⟨S, hSS⟩ : ∃ S : World → Prop, S = fun W => W.cell? ⟨b1, o1 + k * 3, none⟩ = some (.int .i64 d.row) ∧ W.cell? ⟨b1, o1 + k * 3 + 1, none⟩ = some (.int .i64 d.col) ∧ W.cell? ⟨b1, o1 + k * 3 + 2, none⟩ = some (.slice d.A d.L.length d.cap) := ⟨_, rfl⟩
        have q0 := fun x => (held_of hSS x).1
        have q1 := fun x => (held_of hSS x).2.1
        have q2 := fun x => (held_of hSS x).2.2
        have HSS := Lib.hid hSS
        have HCL : Hid (∀ W', Below w.heap.size w W' → S W') := Lib.hid (fun W' hB => held_in HSS.out ⟨(hB.cell hb1).trans HC0.out, (hB.cell hb1).trans HC1.out, (hB.cell hb1).trans HC2.out⟩)
        have hS0 : S w7c.drew := HCL.out _ (bel_drew hW6)
        haveI : Nonempty (Held S) := ⟨⟨_, hS0⟩⟩
        clear hSS
        refine wp_region_tree (S := S) 16 (.q 0 <| .q 1 <| .q 2 <| .q 3 <| .q 4 <| .q 5 <| .q 7 <| .q 8 <| .q 9 <| .q 10 <| .q 11 <| .q 12 <| .a 6 <| .a 13 <| .a 14 <| .q 15 <| .done) [] (by kernel_rfl) (by kernel_rfl) hS0 ?_
        repeat (refine tree_q (by rfl) (by rfl) (fun K hK => ?_); go_simp; refine hK _ ?_; clear hK K)
        refine tree_a (by rfl) (by rfl) (fun K hK => ?_)
        go_simp
        refine (ds_direct db _ O4 Es d.row d.col _ (hP6.below (bel_drew (bel_refl w7c))) HRC.out (by omega)).mono ?_
        rintro e w8a ⟨v1, rfl, hL1, hba⟩
        obtain ⟨A1, c1', rfl, _, _, hL1, _⟩ := hL1.see
        have hBa := bel_call (bel_drew (bel_refl w7c)) hba
        have hWa := bel_call hW6 hBa
        refine hK _ _ (HCL.out _ (hWa)) ?_
        clear hK K
        repeat (refine tree_q (by rfl) (by rfl) (fun K hK => ?_); go_simp; refine hK _ ?_; clear hK K)
        refine tree_a (by rfl) (by rfl) (fun K hK => ?_)
        go_simp
        refine (rs_direct yb Oy5 Es d.row d.col _ (hR6.below hBa) (by omega)).mono ?_
        rintro e w8b ⟨v2, rfl, hL2, hbb⟩
        obtain ⟨A2, c2', rfl, _, _, hL2, _⟩ := hL2.see
        have hBb := bel_call hBa hbb
        have hWb := bel_call hW6 hBb
        refine hK _ _ (HCL.out _ (hWb)) ?_
        clear hK K
        repeat (refine tree_q (by rfl) (by rfl) (fun K hK => ?_); go_simp; refine hK _ ?_; clear hK K)
        refine tree_a (by rfl) (by rfl) (fun K hK => ?_)
        go_simp
        refine (dcells_any (drs d.row d.col Es) A1 A2 c1' c2' _ (hL1.below hbb) hL2 (by have := drs_len0 d.row d.col Es []; unfold drs; simp at this; omega)).mono ?_
        rintro e w8c ⟨rfl, hbc⟩
        have hBc := bel_call hBb hbc
        have hWc := bel_call hW6 hBc
        refine hK _ _ (HCL.out _ (hWc)) ?_
        clear hK K
        repeat (refine tree_q (by rfl) (by rfl) (fun K hK => ?_); go_simp; refine hK _ ?_; clear hK K)
        refine tree_nil ?_
        clear q0 q1 q2 hS0 HSS HCL
        replace hP6 := hP6.below hBc
        replace hR6 := hR6.below hBc
        replace hW6 := hWc
        clear hBa hBb hBc hWa hWb hWc hba hbb hbc hL1 hL2
        go_wp2_with fail
        go_roundw
        case rel => exact ⟨k + 1, O4, Oy5, Es, by omega, by go_num, hP6, hR6, hX5, hO4', hOy5', hW6⟩
        case measure => simp [intOf]; omega
      · have j1 : ¬ (k : Int) < (C.length : Int) := by omega
        go_wp2_with fail
        obtain ⟨S, hSS⟩ : ∃ S : World → Prop, S = fun W => W.cell? ⟨b1, o1 + k * 3, none⟩ = some (.int .i64 d.row) ∧ W.cell? ⟨b1, o1 + k * 3 + 1, none⟩ = some (.int .i64 d.col) ∧ W.cell? ⟨b1, o1 + k * 3 + 2, none⟩ = some (.slice d.A d.L.length d.cap) := ⟨_, rfl⟩
        have q0 := fun x => (held_of hSS x).1
        have q1 := fun x => (held_of hSS x).2.1
        have q2 := fun x => (held_of hSS x).2.2
        have HSS := Lib.hid hSS
        have HCL : Hid (∀ W', Below w.heap.size w W' → S W') := Lib.hid (fun W' hB => held_in HSS.out ⟨(hB.cell hb1).trans HC0.out, (hB.cell hb1).trans HC1.out, (hB.cell hb1).trans HC2.out⟩)
        have hS0 : S w6.drew := HCL.out _ (bel_drew hW6)
        haveI : Nonempty (Held S) := ⟨⟨_, hS0⟩⟩
        clear hSS
        refine wp_region_tree (S := S) 16 (.q 0 <| .q 1 <| .q 2 <| .q 3 <| .q 4 <| .q 5 <| .q 7 <| .q 8 <| .q 9 <| .q 10 <| .q 11 <| .q 12 <| .a 6 <| .a 13 <| .a 14 <| .q 15 <| .done) [] (by kernel_rfl) (by kernel_rfl) hS0 ?_
        repeat (refine tree_q (by rfl) (by rfl) (fun K hK => ?_); go_simp; refine hK _ ?_; clear hK K)
        refine tree_a (by rfl) (by rfl) (fun K hK => ?_)
        go_simp
        refine (ds_direct db _ O4 Es d.row d.col _ (hP6.below (bel_drew (bel_refl w6))) HRC.out (by omega)).mono ?_
        rintro e w8a ⟨v1, rfl, hL1, hba⟩
        obtain ⟨A1, c1', rfl, _, _, hL1, _⟩ := hL1.see
        have hBa := bel_call (bel_drew (bel_refl w6)) hba
        have hWa := bel_call hW6 hBa
        refine hK _ _ (HCL.out _ (hWa)) ?_
        clear hK K
        repeat (refine tree_q (by rfl) (by rfl) (fun K hK => ?_); go_simp; refine hK _ ?_; clear hK K)
        refine tree_a (by rfl) (by rfl) (fun K hK => ?_)
        go_simp
        refine (rs_direct yb Oy5 Es d.row d.col _ (hR6.below hBa) (by omega)).mono ?_
        rintro e w8b ⟨v2, rfl, hL2, hbb⟩
        obtain ⟨A2, c2', rfl, _, _, hL2, _⟩ := hL2.see
        have hBb := bel_call hBa hbb
        have hWb := bel_call hW6 hBb
        refine hK _ _ (HCL.out _ (hWb)) ?_
        clear hK K
        repeat (refine tree_q (by rfl) (by rfl) (fun K hK => ?_); go_simp; refine hK _ ?_; clear hK K)
        refine tree_a (by rfl) (by rfl) (fun K hK => ?_)
        go_simp
        refine (dcells_any (drs d.row d.col Es) A1 A2 c1' c2' _ (hL1.below hbb) hL2 (by have := drs_len0 d.row d.col Es []; unfold drs; simp at this; omega)).mono ?_
        rintro e w8c ⟨rfl, hbc⟩
        have hBc := bel_call hBb hbc
        have hWc := bel_call hW6 hBc
        refine hK _ _ (HCL.out _ (hWc)) ?_
        clear hK K
        repeat (refine tree_q (by rfl) (by rfl) (fun K hK => ?_); go_simp; refine hK _ ?_; clear hK K)
        refine tree_nil ?_
        clear q0 q1 q2 hS0 HSS HCL
        replace hP6 := hP6.below hBc
        replace hR6 := hR6.below hBc
        replace hW6 := hWc
        clear hBa hBb hBc hWa hWb hWc hba hbb hbc hL1 hL2
        go_wp2_with fail
        go_roundw
        case rel => exact ⟨k + 1, O4, Oy5, Es, by omega, by go_num, hP6, hR6, hX5, hO4', hOy5', hW6⟩
        case measure => simp [intOf]; omega
    obtain rfl : k = D.length := by omega
    have i1 : ¬ ((D.length : Int) < (D.length : Int)) := by omega
    obtain ⟨A9, cap9, hy9, hl9⟩ := hR.list
    have hPl := hP.len
    have htl := tot_le D D.length
    go_wp2_with fail
    obtain ⟨S, hSS⟩ : ∃ S : World → Prop, S = fun W => Blk W yb 29 #[.slice A9 Ls.length cap9] := ⟨_, rfl⟩
    have l0 := fun x => (held_of hSS x).lt
    have q0 := fun x => (held_of hSS x).rd
    have HSS := Lib.hid hSS
    have HCL : Hid (∀ W', Below wr.heap.size wr W' → S W') := Lib.hid (fun W' hB => held_in HSS.out (hy9.below hB))
    have hS0 : S wr.drew := HCL.out _ (bel_drew (bel_refl wr))
    haveI : Nonempty (Held S) := ⟨⟨_, hS0⟩⟩
    clear hSS
    refine wp_region_tree (S := S) 8 (.q 0 <| .q 2 <| .q 3 <| .q 4 <| .q 5 <| .a 1 <| .a 6 <| .q 7 <| .done) [] (by kernel_rfl) (by kernel_rfl) hS0 ?_
    repeat (refine tree_q (by rfl) (by rfl) (fun K hK => ?_); go_simp; refine hK _ ?_; clear hK K)
    refine tree_a (by rfl) (by rfl) (fun K hK => ?_)
    go_simp
    refine (ds_edges db _ O Ls _ (hP.below (bel_drew (bel_refl wr))) (by omega)).mono ?_
    rintro e w5 ⟨v5, rfl, hL, hb5⟩
    obtain ⟨A5, c5, rfl, _, _, hL, _⟩ := hL.see
    have hBa := bel_call (bel_drew (bel_refl wr)) hb5
    refine hK _ _ (HCL.out _ (hBa)) ?_
    clear hK K
    repeat (refine tree_q (by rfl) (by rfl) (fun K hK => ?_); go_simp; refine hK _ ?_; clear hK K)
    refine tree_a (by rfl) (by rfl) (fun K hK => ?_)
    go_simp
    refine (dedges_same Ls A5 A9 c5 cap9 _ hL (hl9.below hBa) (by omega)).mono ?_
    rintro e w7 ⟨rfl, hb7⟩
    have hBb := bel_call hBa hb7
    refine hK _ _ (HCL.out _ (hBb)) ?_
    clear hK K
    repeat (refine tree_q (by rfl) (by rfl) (fun K hK => ?_); go_simp; refine hK _ ?_; clear hK K)
    refine tree_nil ?_
    clear l0 q0 hS0 HSS HCL
    replace hW := bel_call hW hBb
    clear hL hb5 hb7 hBa hBb hP hR
    go_wp2_with fail
    refine (dlives_any _).mono ?_
    rintro e w9 ⟨rfl, hb9⟩
    have hW9 := bel_call hW hb9
    clear hb9
    go_wp2_with fail
    go_ret
    exact ⟨rfl, hW9⟩
end Go.Proofs.Ytpgnebhlnkoajaa

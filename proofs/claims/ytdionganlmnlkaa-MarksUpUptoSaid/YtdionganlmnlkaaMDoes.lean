/-
  The law's does: one deed at both. Conditions: those of each theorem.
-/
import Derived.Test.YtdionganlmnlkaaMBoth
namespace Go.Proofs.Ytdionganlmnlkaa
open Go.ChangeShapes Go.WideShapes Go.ChangeAt Go.RowKit Go.Deep
attribute [local go_sem] Cls

/-- All clean. -/
def allC (f : Cl → Option Int) : Cl → Option Int := fun x => (f x).map fun _ => 0
def someC (f : Cl → Option Int) (l : List Cl) : Cl → Option Int := fun x => if x ∈ l then (f x).map (fun _ => 0) else f x
theorem someC_nil (f : Cl → Option Int) : someC f [] = f := by
  funext x
  unfold someC
  rw [if_neg (by simp)]
theorem someC_step {f : Cl → Option Int} {l : List Cl} {c : Cl} (hc : (f c).isSome = true) : clnS (someC f l) c = someC f (l ++ [c]) := by
  have h1 : (someC f l c).isSome = true := by
    unfold someC
    split
    · rw [Option.isSome_map]; exact hc
    · exact hc
  unfold clnS
  rw [if_pos h1]
  funext x
  by_cases e : x = c
  · subst e
    rw [upS_same]
    unfold someC
    rw [if_pos (by simp)]
    cases hf : f x with
    | none => rw [hf] at hc; cases hc
    | some u => rfl
  · rw [upS_other _ _ e]
    unfold someC
    by_cases h : x ∈ l
    · rw [if_pos h, if_pos (by simp [h])]
    · rw [if_neg h, if_neg (by simp [h, e])]
theorem someC_all {f : Cl → Option Int} {l : List Cl} (h : ∀ x, (f x).isSome = true → x ∈ l) : someC f l = allC f := by
  funext x
  unfold someC allC
  by_cases e : x ∈ l
  · rw [if_pos e]
  · rw [if_neg e]
    cases hf : f x with
    | none => rfl
    | some u => exact absurd (h x (by rw [hf]; rfl)) e
/-- What a deed leaves. -/
def StepIs (c : Cl) (L : List Rf) (fm : Bool) (k : Int) (Es Es' : List Ed) (f f' : Cl → Option Int) (pk pk' : Int) : Prop :=
  (k = 0 ∧ Es' = setD c L Es ∧ TMay Es' c fm f f' pk pk') ∨ (k = 1 ∧ Es' = Es ∧ TMay Es c fm f f' pk pk') ∨ (k = 2 ∧ Es' = Es ∧ f' = clnS f c ∧ pk' = pk) ∨ (k = 3 ∧ Es' = Es ∧ f' = allC f ∧ pk' = pk)
/-- Only cells have states. -/
def DomF (f : Cl → Option Int) : Prop := ∀ x, (f x).isSome = true → mayB x.row x.col = true
theorem DomF.touch {Es : List Ed} {c : Cl} {fm : Bool} {f f' : Cl → Option Int} {pk pk' : Int} (h : DomF f) (ho : ∀ e, e ∈ Es → okR (eRf e) = true ∧ mayB e.row e.col = true) (hs : SrtE Es) (ht : TMay Es c fm f f' pk pk') : DomF f' := by
  rcases ht with ⟨_, rfl, _⟩ | ⟨h1, P, hT, _⟩
  · exact h
  · intro x hx
    have hE : x ∈ Es.map eCl → mayB x.row x.col = true := fun hm => by
      obtain ⟨e, he, rfl⟩ := List.mem_map.1 hm
      exact (ho e he).2
    by_cases e : x = c
    · rw [e]; exact h1
    · by_cases e1 : x ∈ drc Es c
      · exact hE (drc_mem hs e1)
      · by_cases e2 : x ∈ P
        · exact hE (hT.psh x e2).2.2.2
        · rw [hT.old x e e1 e2] at hx
          exact h x hx
theorem DomF.clean {f : Cl → Option Int} (h : DomF f) (c : Cl) : DomF (clnS f c) := fun x hx => by
  unfold clnS at hx
  split at hx
  · rename_i h1
    by_cases e : x = c
    · rw [e]; exact h c h1
    · rw [upS_other _ _ e] at hx; exact h x hx
  · exact h x hx
theorem DomF.all {f : Cl → Option Int} (h : DomF f) : DomF (allC f) := fun x hx => by
  unfold allC at hx
  rw [Option.isSome_map] at hx
  exact h x hx
theorem setD_le {c : Cl} {L : List Rf} {Es : List Ed} (h : SrtE Es) : (setD c L Es).length ≤ Es.length + L.length := (setD_spec h).2
/-- What does leaves. -/
def DoesIs (w : World) (bb db mb sm yb rb : Nat) (col : Nat → Nat) (N n m : Nat) (pk : Int) (f : Cl → Option Int) (Es : List Ed) (c : Cl) (L : List Rf) (fm : Bool) (k : Int) (w' : World) : Prop :=
  ∃ col' f' pk' Es', BS w' bb db mb sm yb rb col' (N + 2 * L.length + 1) (n + 2 * Es'.length + 1) (m + 2 * Es'.length + 2) pk' f' Es' Es' ∧ Ext w col w' col' ∧ StepIs c L fm k Es Es' f f' pk pk' ∧ DomF f'
set_option maxHeartbeats 12800000 in
set_option maxRecDepth 100000 in
theorem does_any {w : World} {bb db mb sm yb rb : Nat} {col : Nat → Nat} {N n m : Nat} {pk : Int} {f : Cl → Option Int} {Es Er : List Ed} (kd row cl : Int) (L : List Rf) (A : Option Addr) (cap : Nat) (fm : Bool) (h : BS w bb db mb sm yb rb col N n m pk f Es Er) (hsr : SrtE Er) (hsy : (pk4 kd = 0 → setD ⟨row, cl⟩ L Er = setD ⟨row, cl⟩ L Es) ∧ (pk4 kd ≠ 0 → Er = Es)) (hdm : DomF f) (hA : LN KF w col A L) (hrc : rngC ⟨row, cl⟩) (hkd : -9223372036854775808 ≤ kd ∧ kd ≤ 9223372036854775807)
    (hN : N + 2 * L.length + 1 ≤ 1099511627776) (hn : (n + 1) * 24 ≤ 140737488355328) (hm : (m + 2 * (Es.length + L.length) + 4) * 24 ≤ 140737488355328) (hE : (Es.length + L.length + 1) * 56 ≤ 140737488355328) (hEr : (Er.length + L.length + 1) * 56 ≤ 140737488355328) :
    Calls Try.prog 11 #[.pointer (some ⟨bb, 0, none⟩), .agg #[.int .i64 kd, .int .i64 row, .int .i64 cl, .slice A L.length cap, .bool fm]] w fun e w' => e = .returned (.tuple #[]) ∧ DoesIs w bb db mb sm yb rb col N n m pk f Es ⟨row, cl⟩ L fm (pk4 kd) w' := by
  have HDM := Lib.hid hdm
  have HSR := Lib.hid hsr
  have HSY := Lib.hid hsy
  have HSRT := Lib.hid h.srt
  have HOK := Lib.hid h.okE
  have hlD : (setD ⟨row, cl⟩ L Es).length ≤ Es.length + L.length := setD_le HSRT.out
  have HSRT2 : Hid (SrtE (setD ⟨row, cl⟩ L Es)) := Lib.hid (setD_spec HSRT.out).1
  have hN1 : N + 2 * L.length + 1 ≤ 1099511627776 := hN
  have hn1 : n < 2305843009213693952 := by omega
  have hn2 : n < 4611686018427387904 := by omega
  have hm2 : (m + 2) * 24 ≤ 140737488355328 := Nat.le_trans (Nat.mul_le_mul_right 24 (by omega)) hm
  clear hdm hsr hsy
  go_enter Try.func11, Try.ntmps11
  go_wp2_with fail
  have hB1 := bel_alloc (bel_refl w) (.cells #[.int .i64 kd, .int .i64 row, .int .i64 cl, .slice A L.length cap, .bool fm] 35)
  have kb := h.box hB1 (Blk.new w rfl 35 #[.int .i64 kd, .int .i64 row, .int .i64 cl, .slice A L.length cap, .bool fm]) (Nat.le_refl _)
  have hX := (Ext.refl w col).below hB1
  have hL := hA.below hB1
  have hS := h.below hB1
  generalize hwz : w.alloc (.cells #[.int .i64 kd, .int .i64 row, .int .i64 cl, .slice A L.length cap, .bool fm] 35) = w1 at hB1 kb hX hL hS ⊢
  generalize w.heap.size = gb at kb ⊢
  clear hwz hB1 hA h
  have q0 := kb.1.rd
  go_wp2_with fail
  refine (pick_any kd _ hkd).mono ?_
  rintro e w2 ⟨rfl, rfl⟩
  obtain ⟨q, hq⟩ : ∃ q, q = pk4 kd := ⟨_, rfl⟩
  have hin := pk4_in kd
  rw [← hq] at hin ⊢
  have HQ := Lib.hid hq
  clear hq q0
  rcases (show q = 0 ∨ q = 1 ∨ q = 2 ∨ q = 3 by omega) with rfl | rfl | rfl | rfl
  · have hm1 : (m + 2 * (setD ⟨row, cl⟩ L Es).length + 4) * 24 ≤ 140737488355328 := Nat.le_trans (Nat.mul_le_mul_right 24 (by omega)) hm
    have hE1 : ((setD ⟨row, cl⟩ L Es).length + 1) * 56 ≤ 140737488355328 := Nat.le_trans (Nat.mul_le_mul_right 56 (by omega)) hE
    have qb := hS.top.rd
    have lb := hS.top.lt
    have q0 := kb.1.rd
    go_wp2_with fail
    go_still_tail 8, (by kernel_rfl)
    go_wp2_with fail
    refine (bs_dset row cl L A cap (hS.below (bel_drew (bel_refl _))) (hL.below (bel_drew (bel_refl _))) hN).mono ?_
    rintro e w9 ⟨rfl, col9, hS9, hX9⟩
    replace kb := (kb.below (bel_drew (bel_refl _))).ext hX9
    replace hL := (hL.below (bel_drew (bel_refl _))).ext hX9
    replace hX := (hX.below (bel_drew (bel_refl _))).trans hX9
    replace hS := hS9
    clear qb lb hS9 hX9 q0
    have qb := hS.top.rd
    have lb := hS.top.lt
    have q0 := kb.1.rd
    go_wp2_with fail
    go_still_tail 8, (by kernel_rfl)
    go_wp2_with fail
    refine (bs_rset row cl L A cap (hS.below (bel_drew (bel_refl _))) HSR.out (hL.below (bel_drew (bel_refl _))) hEr).mono ?_
    rintro e w9 ⟨rfl, col9, hS9, hX9⟩
    replace kb := (kb.below (bel_drew (bel_refl _))).ext hX9
    replace hL := (hL.below (bel_drew (bel_refl _))).ext hX9
    replace hX := (hX.below (bel_drew (bel_refl _))).trans hX9
    replace hS := hS9
    clear qb lb hS9 hX9 q0
    rw [HSY.out.1 HQ.out.symm] at hS
    have qb := hS.top.rd
    have lb := hS.top.lt
    have q0 := kb.1.rd
    go_wp2_with fail
    go_still_tail 8, (by kernel_rfl)
    go_wp2_with fail
    refine (bs_touch row cl fm (hS.below (bel_drew (bel_refl _))) hrc hN1 hn1).mono ?_
    rintro e w9 ⟨rfl, f9, pk9, hS9, hX9, hT9⟩
    replace kb := (kb.below (bel_drew (bel_refl _))).ext hX9
    replace hL := (hL.below (bel_drew (bel_refl _))).ext hX9
    replace hX := (hX.below (bel_drew (bel_refl _))).trans hX9
    replace hS := hS9
    have HT := Lib.hid hT9
    clear hT9
    clear qb lb hS9 hX9 q0
    have qb := hS.top.rd
    have lb := hS.top.lt
    have q0 := kb.1.rd
    go_wp2_with fail
    go_still_tail 8, (by kernel_rfl)
    go_wp2_with fail
    refine (bs_rtouch row cl fm (hS.below (bel_drew (bel_refl _))) HSRT2.out hm1 hE1).mono ?_
    rintro e w9 ⟨rfl, col9, hS9, hX9⟩
    replace kb := (kb.below (bel_drew (bel_refl _))).ext hX9
    replace hL := (hL.below (bel_drew (bel_refl _))).ext hX9
    replace hX := (hX.below (bel_drew (bel_refl _))).trans hX9
    replace hS := hS9
    clear qb lb hS9 hX9 q0
    have hfin : DoesIs w bb db mb sm yb rb col N n m pk f Es ⟨row, cl⟩ L fm (pk4 kd) w9 := (by rw [← HQ.out]; exact ⟨_, _, _, _, hS, hX, .inl ⟨rfl, rfl, HT.out⟩, HDM.out.touch hS.okE HSRT2.out HT.out⟩)
    go_wp2_with fail
    try simp only [Exit.inBlock, Exit.then]
    exact ⟨rfl, .tuple #[], by simp [results, Try.results11, go_sem], rfl, hfin⟩
  · obtain rfl : Es = Er := (HSY.out.2 (by rw [← HQ.out]; decide)).symm
    have hN1 : N ≤ 1099511627776 := by omega
    have HSRT2 := HSRT
    have hm1 : (m + 2 * Es.length + 4) * 24 ≤ 140737488355328 := Nat.le_trans (Nat.mul_le_mul_right 24 (by omega)) hm
    have hE1 : (Es.length + 1) * 56 ≤ 140737488355328 := Nat.le_trans (Nat.mul_le_mul_right 56 (by omega)) hE
    have qb := hS.top.rd
    have lb := hS.top.lt
    have q0 := kb.1.rd
    go_wp2_with fail
    go_still_tail 8, (by kernel_rfl)
    go_wp2_with fail
    refine (bs_touch row cl fm (hS.below (bel_drew (bel_refl _))) hrc hN1 hn1).mono ?_
    rintro e w9 ⟨rfl, f9, pk9, hS9, hX9, hT9⟩
    replace kb := (kb.below (bel_drew (bel_refl _))).ext hX9
    replace hL := (hL.below (bel_drew (bel_refl _))).ext hX9
    replace hX := (hX.below (bel_drew (bel_refl _))).trans hX9
    replace hS := hS9
    have HT := Lib.hid hT9
    clear hT9
    clear qb lb hS9 hX9 q0
    have qb := hS.top.rd
    have lb := hS.top.lt
    have q0 := kb.1.rd
    go_wp2_with fail
    go_still_tail 8, (by kernel_rfl)
    go_wp2_with fail
    refine (bs_rtouch row cl fm (hS.below (bel_drew (bel_refl _))) HSRT2.out hm1 hE1).mono ?_
    rintro e w9 ⟨rfl, col9, hS9, hX9⟩
    replace kb := (kb.below (bel_drew (bel_refl _))).ext hX9
    replace hL := (hL.below (bel_drew (bel_refl _))).ext hX9
    replace hX := (hX.below (bel_drew (bel_refl _))).trans hX9
    replace hS := hS9
    clear qb lb hS9 hX9 q0
    have hfin : DoesIs w bb db mb sm yb rb col N n m pk f Es ⟨row, cl⟩ L fm (pk4 kd) w9 := (by rw [← HQ.out]; exact ⟨_, _, _, _, hS.mono (by omega) (Nat.le_refl _) (Nat.le_refl _), hX, .inr (.inl ⟨rfl, rfl, HT.out⟩), HDM.out.touch hS.okE HSRT.out HT.out⟩)
    go_wp2_with fail
    try simp only [Exit.inBlock, Exit.then]
    exact ⟨rfl, .tuple #[], by simp [results, Try.results11, go_sem], rfl, hfin⟩
  · obtain rfl : Es = Er := (HSY.out.2 (by rw [← HQ.out]; decide)).symm
    have qb := hS.top.rd
    have lb := hS.top.lt
    have q0 := kb.1.rd
    go_wp2_with fail
    go_still_tail 6, (by kernel_rfl)
    go_wp2_with fail
    refine (bs_clean row cl (hS.below (bel_drew (bel_refl _))) hrc hn2).mono ?_
    rintro e w9 ⟨rfl, hS9, hX9⟩
    replace kb := (kb.below (bel_drew (bel_refl _))).ext hX9
    replace hL := (hL.below (bel_drew (bel_refl _))).ext hX9
    replace hX := (hX.below (bel_drew (bel_refl _))).trans hX9
    replace hS := hS9
    clear qb lb hS9 hX9 q0
    have qb := hS.top.rd
    have lb := hS.top.lt
    have q0 := kb.1.rd
    go_wp2_with fail
    go_still_tail 6, (by kernel_rfl)
    go_wp2_with fail
    refine (bs_rclean row cl (hS.below (bel_drew (bel_refl _))) hm2).mono ?_
    rintro e w9 ⟨rfl, col9, hS9, hX9⟩
    replace kb := (kb.below (bel_drew (bel_refl _))).ext hX9
    replace hL := (hL.below (bel_drew (bel_refl _))).ext hX9
    replace hX := (hX.below (bel_drew (bel_refl _))).trans hX9
    replace hS := hS9
    clear qb lb hS9 hX9 q0
    have hfin : DoesIs w bb db mb sm yb rb col N n m pk f Es ⟨row, cl⟩ L fm (pk4 kd) w9 := (by rw [← HQ.out]; exact ⟨_, _, _, _, hS.mono (by omega) (by omega) (by omega), hX, .inr (.inr (.inl ⟨rfl, rfl, rfl, rfl⟩)), HDM.out.clean _⟩)
    go_wp2_with fail
    try simp only [Exit.inBlock, Exit.then]
    exact ⟨rfl, .tuple #[], by simp [results, Try.results11, go_sem], rfl, hfin⟩
  · obtain rfl : Es = Er := (HSY.out.2 (by rw [← HQ.out]; decide)).symm
    have qb := hS.top.rd
    have lb := hS.top.lt
    go_wp2_with fail
    refine (mall_any hS.mm hn).mono ?_
    rintro e w3 ⟨v3, Ls, rfl, hO, _, hmem, hrng, hlen, hb3⟩
    have HMEM := Lib.hid hmem
    have HRNG := Lib.hid hrng
    obtain ⟨A3, c3, rfl, _, hcm3, hLi3, hA3⟩ := hO.see
    have hL3 : LN (KMs (stOf f)) w3 col A3 Ls := hS.list hb3 hLi3 (fun b off e => by
      rcases hA3 with ⟨rfl, _⟩ | ⟨g, cur, rfl, hg, _⟩
      · cases e
      · injection e with e
        injection e with e _ _
        omega)
    have hS3 := hS.below hb3
    have hX3 := hX.below hb3
    have hcl : Ls.length ≤ 9223372036854775807 := by omega
    clear qb lb hS hX hL hb3 hO hLi3 hA3 kb hmem hrng hlD hcm3
    rw [← someC_nil f] at hS3
    go_wp2_with fail
    go_loopw [5] (fun s5 wr => ∃ (k : Nat) (colr : Nat → Nat), k ≤ Ls.length ∧ s5 = .int .i64 k ∧ BS wr bb db mb sm yb rb colr N n m pk (someC f (Ls.take k)) Es Es ∧ Ext w col wr colr ∧ LN (KMs (stOf f)) wr colr A3 Ls) (fun s5 _ => Ls.length - (intOf s5).toNat)
    case atStart => exact ⟨0, col, Nat.zero_le _, rfl, hS3, hX3, hL3⟩
    case round =>
      clear hS3 hX3 hL3
      obtain ⟨k, colr, hk, rfl, hS, hX, hL⟩ := hrel
      by_cases hkl : k < Ls.length
      · obtain ⟨x, hx⟩ : ∃ x, Ls[k]? = some x := ⟨_, List.getElem?_eq_getElem hkl⟩
        have HXA := Lib.hid hx
        have hrx : rngC ⟨x.row, x.col⟩ := HRNG.out x (List.mem_of_getElem? hx)
        have HST : Hid (clnS (someC f (Ls.take k)) (⟨x.row, x.col⟩ : Cl) = someC f (Ls.take (k + 1))) := Lib.hid (by
          rw [List.take_add_one, hx]
          exact someC_step ((HMEM.out x hrx).1 (List.mem_of_getElem? hx)))
        have i0 : (0 : Int) ≤ (k : Int) := by omega
        have i1 : (k : Int) < (Ls.length : Int) := by omega
        clear hx
        have qb := hS.top.rd
        have lb := hS.top.lt
        obtain ⟨gx, ox, hAe, hgx, x0, x1, x2⟩ := mks_at hL.1 HXA.out
        subst hAe
        clear x2
        go_wp2_with fail
        go_still_tail 9, (by kernel_rfl)
        go_wp2_with fail
        refine (bs_clean x.row x.col (hS.below (bel_drew (bel_refl _))) hrx hn2).mono ?_
        rintro e w9 ⟨rfl, hS9, hX9⟩
        replace hL := (hL.below (bel_drew (bel_refl _))).ext hX9
        replace hX := (hX.below (bel_drew (bel_refl _))).trans hX9
        replace hS := hS9
        clear qb lb hS9 hX9
        clear x0 x1 hgx
        rw [HST.out] at hS
        have qb := hS.top.rd
        have lb := hS.top.lt
        obtain ⟨g2, o2, hAe, hgx, x0, x1, x2⟩ := mks_at hL.1 HXA.out
        injection hAe with hAe
        injection hAe with hAe1 hAe2 _
        subst hAe1 hAe2
        clear x2
        go_wp2_with fail
        go_still_tail 9, (by kernel_rfl)
        go_wp2_with fail
        refine (bs_rclean x.row x.col (hS.below (bel_drew (bel_refl _))) hm2).mono ?_
        rintro e w9 ⟨rfl, col9, hS9, hX9⟩
        replace hL := (hL.below (bel_drew (bel_refl _))).ext hX9
        replace hX := (hX.below (bel_drew (bel_refl _))).trans hX9
        replace hS := hS9
        clear qb lb hS9 hX9
        clear x0 x1 hgx
        go_wp2_with fail
        go_roundw
        case rel => exact ⟨k + 1, _, by omega, by go_num, hS, hX, hL⟩
        case measure => simp [intOf]; omega
      obtain rfl : k = Ls.length := by omega
      have i1 : ¬ ((Ls.length : Int) < (Ls.length : Int)) := by omega
      rw [List.take_length, someC_all (fun x hx => (HMEM.out x (rngC_of_may (HDM.out x hx))).2 hx)] at hS
      have hfin : DoesIs w bb db mb sm yb rb col N n m pk f Es ⟨row, cl⟩ L fm (pk4 kd) wr := (by rw [← HQ.out]; exact ⟨_, _, _, _, hS.mono (by omega) (by omega) (by omega), hX, .inr (.inr (.inr ⟨rfl, rfl, rfl, rfl⟩)), HDM.out.all⟩)
      clear hS hX hL
      go_wp2_with fail
      try simp only [Exit.inBlock, Exit.then]
      exact ⟨rfl, .tuple #[], by simp [results, Try.results11, go_sem], rfl, hfin⟩
end Go.Proofs.Ytdionganlmnlkaa

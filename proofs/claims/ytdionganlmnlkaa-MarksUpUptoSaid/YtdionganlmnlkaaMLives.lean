/-
  The law's lives. Conditions: none.
-/
import Derived.Test.YtdionganlmnlkaaMDoes
namespace Go.Proofs.Ytdionganlmnlkaa
open Go.ChangeShapes Go.WideShapes Go.ChangeAt Go.RowKit Go.Deep
attribute [local go_sem] Cls

theorem lives_pure {f0 f1 f3 : Cl → Option Int} {pk0 pk1 pk3 : Int} {pkx : Int} (h1 : TMay [(⟨1, 2, false, 1, 1, 1, 1⟩ : Ed)] ⟨1, 2⟩ true f0 f1 pk0 pk1) (h3 : TMay [(⟨1, 2, false, 1, 1, 1, 1⟩ : Ed)] ⟨1, 1⟩ false (clnS f1 ⟨1, 2⟩) f3 pkx pk3) : f3 ⟨1, 2⟩ = some 2 ∧ pk3 = 1 := by
  rcases h1 with ⟨h, _⟩ | ⟨_, P1, hT1, _⟩
  · exact absurd h (by decide)
  rcases h3 with ⟨h, _⟩ | ⟨_, P3, hT3, _, p0, p1, p2⟩
  · exact absurd h (by decide)
  have e1 : f1 ⟨1, 2⟩ = some 2 := hT1.own
  have e2 : clnS f1 ⟨1, 2⟩ ⟨1, 2⟩ = some 0 := by
    unfold clnS
    rw [if_pos (by rw [e1]; rfl), upS_same]
  have hd : drc [(⟨1, 2, false, 1, 1, 1, 1⟩ : Ed)] ⟨1, 1⟩ = [⟨1, 2⟩] := by decide
  have hm : (⟨1, 2⟩ : Cl) ∈ drc [(⟨1, 2, false, 1, 1, 1, 1⟩ : Ed)] ⟨1, 1⟩ := by rw [hd]; simp
  have hp : (⟨1, 2⟩ : Cl) ∈ P3 := hT3.all _ hm (by decide) (by rw [e2]; rfl)
  have hl := hT3.len
  have hl2 : P3.length ≤ 1 := hl
  refine ⟨hT3.due _ hm (by decide), ?_⟩
  have := p1 (fun e => by rw [e] at hp; cases hp)
  omega
set_option maxHeartbeats 6400000 in
set_option maxRecDepth 100000 in
theorem lives_any (w : World) : Calls Try.prog 15 #[] w fun e w' => e = .returned (.bool true) ∧ Below w.heap.size w w' := by
  go_enter Try.func15, Try.ntmps15
  go_wp2_with fail
  refine (begin_any _).mono ?_
  rintro e w1 ⟨bb, db, mb, sm, yb, rb, col, rfl, hS0, hlow, hW0⟩
  have qb := hS0.top.rd
  have lb := hS0.top.lt
  go_wp2_with fail
  refine (mnil_any _).mono ?_
  rintro e w1n ⟨rfl, hb1⟩
  have hW := bel_call hW0 hb1
  have hS := hS0.below hb1
  clear hb1 hW0 hS0 qb lb
  go_upto_region 5 with fail
  have hB2 := bel_alloc (bel_refl w1n) (.cells #[.int .i64 1, .int .i64 2] 32)
  have kb := hS.box hB2 (Blk.new w1n rfl 32 #[.int .i64 1, .int .i64 2]) (Nat.le_refl _)
  replace hS := hS.below hB2
  replace hW := bel_call hW hB2
  generalize hwz : w1n.alloc (.cells #[.int .i64 1, .int .i64 2] 32) = w2 at hB2 kb hS hW ⊢
  generalize w1n.heap.size = ga at kb ⊢
  clear hwz hB2
  have hX := Ext.refl w2 col
  have HBL : Hid (Below w2.heap.size w2 (w2.alloc (.cells #[.bool false, .int .i64 1, .int .i64 1, .int .i64 1, .int .i64 1] 53)).drew) := Lib.hid (bel_drew (bel_alloc (bel_refl w2) _))
  have HBS := Lib.hid (hS.below HBL.out)
  have HLN : Hid (LN KF (w2.alloc (.cells #[.bool false, .int .i64 1, .int .i64 1, .int .i64 1, .int .i64 1] 53)).drew col (some ⟨w2.heap.size, 0, none⟩) [(⟨false, 1, 1, 1, 1⟩ : Rf)]) := Lib.hid (hS.list HBL.out (Lies.blk (Blk.new w2 rfl 53 #[.bool false, .int .i64 1, .int .i64 1, .int .i64 1, .int .i64 1]).drew rfl) (fun b off e => by
    injection e with e
    injection e with e _ _
    omega))
  obtain ⟨S, hSS⟩ : ∃ S : World → Prop, S = fun W => Blk W bb 30 #[.pointer (some ⟨db, 0, none⟩), .pointer (some ⟨mb, 0, none⟩), .pointer (some ⟨yb, 0, none⟩), .pointer (some ⟨rb, 0, none⟩)] ∧ Blk W ga 32 #[.int .i64 1, .int .i64 2] := ⟨_, rfl⟩
  have q0 := fun x => (held_of hSS x).1.rd
  have l0 := fun x => (held_of hSS x).1.lt
  have q1 := fun x => (held_of hSS x).2.rd
  have HSS := Lib.hid hSS
  have HCL : Hid (∀ W', Blk W' bb 30 #[.pointer (some ⟨db, 0, none⟩), .pointer (some ⟨mb, 0, none⟩), .pointer (some ⟨yb, 0, none⟩), .pointer (some ⟨rb, 0, none⟩)] ∧ Blk W' ga 32 #[.int .i64 1, .int .i64 2] → S W') := Lib.hid (fun W' hB => held_in HSS.out hB)
  have hS0 : S w2.drew := HCL.out _ (⟨hS.top.drew, kb.1.drew⟩)
  haveI : Nonempty (Held S) := ⟨⟨_, hS0⟩⟩
  clear hSS
  refine wp_region_tree (S := S) 9 (.q 0 <| .q 1 <| .q 2 <| .q 3 <| .q 4 <| .q 5 <| .q 6 <| .a 7 <| .a 8 <| .done) [] (by kernel_rfl) (by kernel_rfl) hS0 ?_
  repeat (refine tree_q (by rfl) (by rfl) (fun K hK => ?_); go_simp; refine hK _ ?_; clear hK K)
  refine tree_a (by rfl) (by rfl) (fun K hK => ?_)
  go_simp
  refine hK _ _ (HCL.out _ ⟨(hS.below HBL.out).top, (kb.below HBL.out).1⟩) ?_
  clear hK K
  repeat (refine tree_q (by rfl) (by rfl) (fun K hK => ?_); go_simp; refine hK _ ?_; clear hK K)
  refine tree_a (by rfl) (by rfl) (fun K hK => ?_)
  go_simp
  refine (bs_dset 1 2 [(⟨false, 1, 1, 1, 1⟩ : Rf)] (some ⟨w2.heap.size, 0, none⟩) 1 HBS.out HLN.out (by decide)).mono ?_
  rintro e w9 ⟨rfl, col9, hS9, hX9⟩
  have kb9 := (kb.below HBL.out).ext hX9
  have hX10 := (hX.below HBL.out).trans hX9
  rw [show setD ⟨1, 2⟩ [(⟨false, 1, 1, 1, 1⟩ : Rf)] [] = [(⟨1, 2, false, 1, 1, 1, 1⟩ : Ed)] from by decide] at hS9
  refine hK _ _ (HCL.out _ ⟨hS9.top, kb9.1⟩) ?_
  clear hK K
  repeat (refine tree_q (by rfl) (by rfl) (fun K hK => ?_); go_simp; refine hK _ ?_; clear hK K)
  refine tree_nil ?_
  clear q0 l0 q1 hS0 HSS HCL
  clear HBL HBS HLN hX
  replace kb := kb9
  replace hX := hX10
  replace hS := hS9
  clear kb9 hX10 hS9
  have q0 := kb.1.rd
  have qb := hS.top.rd
  have lb := hS.top.lt
  go_wp2_with fail
  go_still_tail 5, (by kernel_rfl)
  go_wp2_with fail
  refine (bs_touch 1 2 true (hS.below (bel_drew (bel_refl _))) (by unfold rngC i64P; decide) (by decide) (by decide)).mono ?_
  rintro e w9 ⟨rfl, f1, pk1, hS9, hX9, hT1⟩
  replace kb := (kb.below (bel_drew (bel_refl _))).ext hX9
  replace hX := (hX.below (bel_drew (bel_refl _))).trans hX9
  replace hS := hS9
  clear qb lb q0 hS9 hX9
  have q0 := kb.1.rd
  have qb := hS.top.rd
  have lb := hS.top.lt
  go_wp2_with fail
  go_still_tail 5, (by kernel_rfl)
  go_wp2_with fail
  refine (bs_clean 1 2 (hS.below (bel_drew (bel_refl _))) (by unfold rngC i64P; decide) (by decide)).mono ?_
  rintro e w9 ⟨rfl, hS9, hX9⟩
  replace kb := (kb.below (bel_drew (bel_refl _))).ext hX9
  replace hX := (hX.below (bel_drew (bel_refl _))).trans hX9
  replace hS := hS9
  clear qb lb q0 hS9 hX9
  have qb := hS.top.rd
  have lb := hS.top.lt
  go_wp2_with fail
  refine (bs_touch 1 1 false hS (by unfold rngC i64P; decide) (by decide) (by decide)).mono ?_
  rintro e w9 ⟨rfl, f3, pk3, hS9, hX9, hT3⟩
  replace kb := kb.ext hX9
  replace hX := hX.trans hX9
  replace hS := hS9
  clear qb lb hS9 hX9
  obtain ⟨e1, rfl⟩ := lives_pure hT1 hT3
  have HF3 := Lib.hid e1
  clear hT1 hT3 e1
  have hWf := hX.bel hW hlow
  have HMM := Lib.hid hS.mm
  have HTOP := Lib.hid hS.top
  have HKB := Lib.hid kb.1
  clear hX hW hlow
  go_upto_region 9 with fail
  obtain ⟨S, hSS⟩ : ∃ S : World → Prop, S = fun W => Blk W bb 30 #[.pointer (some ⟨db, 0, none⟩), .pointer (some ⟨mb, 0, none⟩), .pointer (some ⟨yb, 0, none⟩), .pointer (some ⟨rb, 0, none⟩)] ∧ Blk W ga 32 #[.int .i64 1, .int .i64 2] := ⟨_, rfl⟩
  have q0 := fun x => (held_of hSS x).1.rd
  have l0 := fun x => (held_of hSS x).1.lt
  have q1 := fun x => (held_of hSS x).2.rd
  have HSS := Lib.hid hSS
  have HCL : Hid (∀ W', Below w9.heap.size w9 W' → S W') := Lib.hid (fun W' hB => held_in HSS.out ⟨HTOP.out.below hB, HKB.out.below hB⟩)
  have hS0 : S w9.drew := HCL.out _ (bel_drew (bel_refl w9))
  haveI : Nonempty (Held S) := ⟨⟨_, hS0⟩⟩
  clear hSS
  refine wp_region_tree (S := S) 11 (.q 0 <| .q 1 <| .q 2 <| .q 3 <| .q 4 <| .a 5 <| .q 6 <| .q 7 <| .q 8 <| .q 9 <| .q 10 <| .done) [] (by kernel_rfl) (by kernel_rfl) hS0 ?_
  repeat (refine tree_q (by rfl) (by rfl) (fun K hK => ?_); go_simp; refine hK _ ?_; clear hK K)
  refine tree_a (by rfl) (by rfl) (fun K hK => ?_)
  go_simp
  refine (mstate_any 1 2 (HMM.out.below (bel_drew (bel_refl w9))) (by unfold rngC i64P; decide)).mono ?_
  rintro e w5 ⟨rfl, hb5⟩
  rw [HF3.out]
  have hB5 := bel_call (bel_drew (bel_refl w9)) hb5
  clear hb5
  refine hK _ _ (HCL.out _ (hB5)) ?_
  clear hK K
  repeat (refine tree_q (by rfl) (by rfl) (fun K hK => ?_); go_simp; refine hK _ ?_; clear hK K)
  refine tree_nil ?_
  clear q0 l0 q1 hS0 HSS HCL
  have hMM := HMM.out.below hB5
  have k5 := HTOP.out.below hB5
  have hW5 := bel_call hWf hB5
  have qb := k5.rd
  have lb := k5.lt
  clear hS kb hB5 HMM HTOP HKB HF3
  go_wp2_with fail
  refine (mpeak_any hMM).mono ?_
  rintro e w6 ⟨rfl, hb6⟩
  have hW6 := bel_call hW5 hb6
  go_wp2_with fail
  go_ret
  exact ⟨rfl, hW6⟩
end Go.Proofs.Ytdionganlmnlkaa

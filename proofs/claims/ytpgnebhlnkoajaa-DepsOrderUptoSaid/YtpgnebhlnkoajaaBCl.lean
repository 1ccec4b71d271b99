/-
  Bands: contract of the closure that orders edges. Conditions: none.
-/
import Derived.Test.YtpgnebhlnkoajaaBCmp
import Derived.Test.YtpgnebhlnkoajaaBRem
import Derived.Test.YtpgnebhlnkoajaaOlTake
import Derived.Test.YtpgnebhlnkoajaaQb
import Derived.Deep.DeepCutAuto
import Derived.Deep.CutBlock
namespace Go.Proofs.Ytpgnebhlnkoajaa
open Go.ChangeShapes Go.WideShapes Go.ChangeAt Go.RowKit Go.Deep
attribute [local go_sem] Cls

section
variable {w : World} {L : List Pr} {A : Option Addr}
theorem edge_at (h : Lies KE w A L) {i : Nat} {x : Pr} (hx : L[i]? = some x) : ∃ g off, A = some ⟨g, off, none⟩ ∧ g < w.heap.size ∧ w.cell? ⟨g, off + i * 7, none⟩ = some (.int .i64 x.row) ∧ w.cell? ⟨g, off + i * 7 + 1, none⟩ = some (.int .i64 x.col) ∧ w.cell? ⟨g, off + i * 7 + 2, none⟩ = some (.bool true) ∧ w.cell? ⟨g, off + i * 7 + 3, none⟩ = some (.int .i64 x.t) ∧ w.cell? ⟨g, off + i * 7 + 4, none⟩ = some (.int .i64 x.l) ∧ w.cell? ⟨g, off + i * 7 + 5, none⟩ = some (.int .i64 x.b) ∧ w.cell? ⟨g, off + i * 7 + 6, none⟩ = some (.int .i64 x.r) := by
  obtain ⟨g, off, h1, h2, h3⟩ := h i x hx
  exact ⟨g, off, h1, h2, h3 0 _ rfl, h3 1 _ rfl, h3 2 _ rfl, h3 3 _ rfl, h3 4 _ rfl, h3 5 _ rfl, h3 6 _ rfl⟩
end

def edgeI (x y : Pr) : Int := orI [rowI x.row x.col y.row y.col, cmpI x.t y.t, cmpI x.l y.l, cmpI x.b y.b, cmpI x.r y.r]
theorem cmp_neg (a b : Int) : (cmpI a b < 0 ↔ a < b) ∧ (cmpI a b = 0 ↔ a = b) := by
  unfold cmpI
  by_cases h1 : a < b
  · rw [if_pos h1]
    omega
  · rw [if_neg h1]
    by_cases h2 : b < a
    · rw [if_pos h2]
      omega
    · rw [if_neg h2]
      omega
theorem or_neg (x : Int) (l : List Int) : (orI (x :: l) < 0 ↔ x < 0 ∨ x = 0 ∧ orI l < 0) ∧ (orI (x :: l) = 0 ↔ x = 0 ∧ orI l = 0) := by
  have h : orI (x :: l) = if x = 0 then orI l else x := rfl
  rw [h]
  by_cases e : x = 0
  · rw [if_pos e]
    omega
  · rw [if_neg e]
    omega
/-- It tells the pairs' order. -/
theorem edgeI_lt (x y : Pr) : edgeI x y < 0 ↔ ltP x y := by
  unfold edgeI rowI ltP
  have hn : ¬ orI [] < 0 := by decide
  simp only [(or_neg _ _).1, (or_neg _ _).2, (cmp_neg _ _).1, (cmp_neg _ _).2, hn]
  have h0 : orI [] = 0 := rfl
  simp only [h0, and_false, or_false, and_true]
  omega

set_option maxHeartbeats 3200000 in
set_option maxRecDepth 100000 in
theorem close_any (xw xc xt xl xb xr yw yc yt yl yb yr : Int) (w : World) : Calls Try.prog 54 #[.agg #[.int .i64 xw, .int .i64 xc, .bool true, .int .i64 xt, .int .i64 xl, .int .i64 xb, .int .i64 xr], .agg #[.int .i64 yw, .int .i64 yc, .bool true, .int .i64 yt, .int .i64 yl, .int .i64 yb, .int .i64 yr]] w fun e w' => e = .returned (.int .i64 (edgeI ⟨xw, xc, xt, xl, xb, xr⟩ ⟨yw, yc, yt, yl, yb, yr⟩)) ∧ Gw w w' := by
  obtain ⟨R, hR⟩ : ∃ R, R = edgeI ⟨xw, xc, xt, xl, xb, xr⟩ ⟨yw, yc, yt, yl, yb, yr⟩ := ⟨_, rfl⟩
  rw [← hR]
  have HR := Lib.hid hR
  clear hR
  go_enter Try.func54, Try.ntmps54
  go_upto_region 1 with fail
  have hB3 := gw_alloc (gw_alloc (gw_refl w) (.cells #[.int .i64 xw, .int .i64 xc, .bool true, .int .i64 xt, .int .i64 xl, .int .i64 xb, .int .i64 xr] 51)) (.cells #[.int .i64 yw, .int .i64 yc, .bool true, .int .i64 yt, .int .i64 yl, .int .i64 yb, .int .i64 yr] 51)
  have k2 := (Blk.new w rfl 51 #[.int .i64 xw, .int .i64 xc, .bool true, .int .i64 xt, .int .i64 xl, .int .i64 xb, .int .i64 xr]).alloc (.cells #[.int .i64 yw, .int .i64 yc, .bool true, .int .i64 yt, .int .i64 yl, .int .i64 yb, .int .i64 yr] 51)
  have k3 := Blk.new (w.alloc (.cells #[.int .i64 xw, .int .i64 xc, .bool true, .int .i64 xt, .int .i64 xl, .int .i64 xb, .int .i64 xr] 51)) (g := w.heap.size + 1) (by simp) 51 #[.int .i64 yw, .int .i64 yc, .bool true, .int .i64 yt, .int .i64 yl, .int .i64 yb, .int .i64 yr]
  generalize hwz : (w.alloc (.cells #[.int .i64 xw, .int .i64 xc, .bool true, .int .i64 xt, .int .i64 xl, .int .i64 xb, .int .i64 xr] 51)).alloc (.cells #[.int .i64 yw, .int .i64 yc, .bool true, .int .i64 yt, .int .i64 yl, .int .i64 yb, .int .i64 yr] 51) = w3 at hB3 k2 k3 ⊢
  clear hwz
  go_cut [5, 6] (fun s5 s6 wx => ∃ p5 p6, s5 = .pointer (some ⟨p5, 0, none⟩) ∧ s6 = .pointer (some ⟨p6, 0, none⟩) ∧ Blk wx p5 47 #[.int .i64 xt, .int .i64 xl, .int .i64 xb, .int .i64 xr] ∧ Blk wx p6 47 #[.int .i64 yt, .int .i64 yl, .int .i64 yb, .int .i64 yr] ∧ Gw w3 wx)
  case first =>
    obtain ⟨S, hSS⟩ : ∃ S : World → Prop, S = fun w' => Blk w' w.heap.size 51 #[.int .i64 xw, .int .i64 xc, .bool true, .int .i64 xt, .int .i64 xl, .int .i64 xb, .int .i64 xr] ∧ Blk w' (w.heap.size + 1) 51 #[.int .i64 yw, .int .i64 yc, .bool true, .int .i64 yt, .int .i64 yl, .int .i64 yb, .int .i64 yr] := ⟨_, rfl⟩
    have q0 := fun x => (held_of hSS x).1.rd
    have q1 := fun x => (held_of hSS x).2.rd
    have HSS := Lib.hid hSS
    have hBS : ∀ wx : World, Below w3.heap.size w3 wx → S wx := fun wx hb => held_in HSS.out ⟨k2.below hb, k3.below hb⟩
    have HBS := Lib.hid hBS
    clear hSS hBS
    have hS0 := HBS.out _ (bel_drew (bel_refl w3))
    haveI : Nonempty (Held S) := ⟨⟨_, hS0⟩⟩
    refine wp_region_tree (S := S) 10 (.q 0 <| .q 1 <| .q 2 <| .q 3 <| .q 4 <| .q 5 <| .fork 6 (.a 7 <| .a 8 <| .a 9 <| .done) 7 (.a 6 <| .a 8 <| .a 9 <| .done)) [] (by kernel_rfl) (by kernel_rfl) hS0 ?_
    repeat (refine tree_q (by rfl) (by rfl) (fun K hK => ?_); go_simp; refine hK _ ?_; clear hK K)
    refine tree_f (by rfl) (by rfl) (by rfl) (by rfl) (fun K hK => ?_) (fun K hK => ?_)
    · go_simp
      refine hK _ _ (HBS.out _ (bel_drew (bel_alloc (bel_refl w3) (.cells #[.int .i64 0, .int .i64 0, .int .i64 0, .int .i64 0] 47)))) ?_
      clear hK K
      refine tree_a (by rfl) (by rfl) (fun K hK => ?_)
      go_simp
      refine hK _ _ (HBS.out _ (bel_drew (bel_alloc (bel_alloc (bel_refl w3) (.cells #[.int .i64 0, .int .i64 0, .int .i64 0, .int .i64 0] 47)) (.cells #[.int .i64 0, .int .i64 0, .int .i64 0, .int .i64 0] 47)))) ?_
      clear hK K
      refine tree_a (by rfl) (by rfl) (fun K hK => ?_)
      go_simp
      refine hK _ _ (HBS.out _ (bel_drew (bel_alloc (bel_alloc (bel_refl w3) (.cells #[.int .i64 xt, .int .i64 xl, .int .i64 xb, .int .i64 xr] 47)) (.cells #[.int .i64 0, .int .i64 0, .int .i64 0, .int .i64 0] 47)))) ?_
      clear hK K
      refine tree_a (by rfl) (by rfl) (fun K hK => ?_)
      go_simp
      refine hK _ _ (HBS.out _ (bel_drew (bel_alloc (bel_alloc (bel_refl w3) (.cells #[.int .i64 xt, .int .i64 xl, .int .i64 xb, .int .i64 xr] 47)) (.cells #[.int .i64 yt, .int .i64 yl, .int .i64 yb, .int .i64 yr] 47)))) ?_
      clear hK K
      refine tree_nil ?_
      have k8 := ((Blk.new w3 rfl 47 #[.int .i64 xt, .int .i64 xl, .int .i64 xb, .int .i64 xr]).alloc (.cells #[.int .i64 yt, .int .i64 yl, .int .i64 yb, .int .i64 yr] 47)).drew
      have k9 := (Blk.new (w3.alloc (.cells #[.int .i64 xt, .int .i64 xl, .int .i64 xb, .int .i64 xr] 47)) (g := w3.heap.size + 1) (by simp) 47 #[.int .i64 yt, .int .i64 yl, .int .i64 yb, .int .i64 yr]).drew
      go_wp2_with fail
      go_meet
      case rel => exact ⟨_, _, rfl, rfl, k8, k9, (gw_drew (gw_alloc (gw_alloc (gw_refl w3) (.cells #[.int .i64 xt, .int .i64 xl, .int .i64 xb, .int .i64 xr] 47)) (.cells #[.int .i64 yt, .int .i64 yl, .int .i64 yb, .int .i64 yr] 47)))⟩
    · go_simp
      refine hK _ _ (HBS.out _ (bel_drew (bel_alloc (bel_refl w3) (.cells #[.int .i64 0, .int .i64 0, .int .i64 0, .int .i64 0] 47)))) ?_
      clear hK K
      refine tree_a (by rfl) (by rfl) (fun K hK => ?_)
      go_simp
      refine hK _ _ (HBS.out _ (bel_drew (bel_alloc (bel_alloc (bel_refl w3) (.cells #[.int .i64 0, .int .i64 0, .int .i64 0, .int .i64 0] 47)) (.cells #[.int .i64 0, .int .i64 0, .int .i64 0, .int .i64 0] 47)))) ?_
      clear hK K
      refine tree_a (by rfl) (by rfl) (fun K hK => ?_)
      go_simp
      refine hK _ _ (HBS.out _ (bel_drew (bel_alloc (bel_alloc (bel_refl w3) (.cells #[.int .i64 0, .int .i64 0, .int .i64 0, .int .i64 0] 47)) (.cells #[.int .i64 xt, .int .i64 xl, .int .i64 xb, .int .i64 xr] 47)))) ?_
      clear hK K
      refine tree_a (by rfl) (by rfl) (fun K hK => ?_)
      go_simp
      refine hK _ _ (HBS.out _ (bel_drew (bel_alloc (bel_alloc (bel_refl w3) (.cells #[.int .i64 yt, .int .i64 yl, .int .i64 yb, .int .i64 yr] 47)) (.cells #[.int .i64 xt, .int .i64 xl, .int .i64 xb, .int .i64 xr] 47)))) ?_
      clear hK K
      refine tree_nil ?_
      have k8 := (Blk.new (w3.alloc (.cells #[.int .i64 yt, .int .i64 yl, .int .i64 yb, .int .i64 yr] 47)) (g := w3.heap.size + 1) (by simp) 47 #[.int .i64 xt, .int .i64 xl, .int .i64 xb, .int .i64 xr]).drew
      have k9 := ((Blk.new w3 rfl 47 #[.int .i64 yt, .int .i64 yl, .int .i64 yb, .int .i64 yr]).alloc (.cells #[.int .i64 xt, .int .i64 xl, .int .i64 xb, .int .i64 xr] 47)).drew
      go_wp2_with fail
      go_meet
      case rel => exact ⟨_, _, rfl, rfl, k8, k9, (gw_drew (gw_alloc (gw_alloc (gw_refl w3) (.cells #[.int .i64 yt, .int .i64 yl, .int .i64 yb, .int .i64 yr] 47)) (.cells #[.int .i64 xt, .int .i64 xl, .int .i64 xb, .int .i64 xr] 47)))⟩
  case rest =>
    obtain ⟨p5, p6, rfl, rfl, k5, k6, hg4⟩ := hcut
    have hb4 := gw_bel hg4
    replace k2 := k2.below hb4
    replace k3 := k3.below hb4
    have hB4 := gw_trans hB3 hg4
    clear hb4
    obtain ⟨S, hSS⟩ : ∃ S : World → Prop, S = fun w' => (Blk w' w.heap.size 51 #[.int .i64 xw, .int .i64 xc, .bool true, .int .i64 xt, .int .i64 xl, .int .i64 xb, .int .i64 xr] ∧ Blk w' (w.heap.size + 1) 51 #[.int .i64 yw, .int .i64 yc, .bool true, .int .i64 yt, .int .i64 yl, .int .i64 yb, .int .i64 yr]) ∧ Blk w' p5 47 #[.int .i64 xt, .int .i64 xl, .int .i64 xb, .int .i64 xr] ∧ Blk w' p6 47 #[.int .i64 yt, .int .i64 yl, .int .i64 yb, .int .i64 yr] := ⟨_, rfl⟩
    have q0 := fun x => (held_of hSS x).1.1.rd
    have q1 := fun x => (held_of hSS x).1.2.rd
    have q2 := fun x => (held_of hSS x).2.1.rd
    have q3 := fun x => (held_of hSS x).2.2.rd
    have HSS := Lib.hid hSS
    have hBS : ∀ wx : World, Below wc.heap.size wc wx → S wx := fun wx hb => held_in HSS.out ⟨⟨k2.below hb, k3.below hb⟩, k5.below hb, k6.below hb⟩
    have HBS := Lib.hid hBS
    clear hSS hBS
    have hS0 := HBS.out _ (bel_drew (bel_refl wc))
    haveI : Nonempty (Held S) := ⟨⟨_, hS0⟩⟩
    go_wp2_with fail
    refine wp_region_tree (S := S) 28 (.q 0 <| .q 1 <| .q 2 <| .q 3 <| .q 5 <| .q 6 <| .q 7 <| .q 8 <| .q 10 <| .q 11 <| .q 12 <| .q 13 <| .q 15 <| .q 16 <| .q 17 <| .q 18 <| .q 20 <| .q 21 <| .q 22 <| .q 23 <| .a 4 <| .a 9 <| .a 14 <| .a 19 <| .a 24 <| .a 25 <| .a 26 <| .q 27 <| .done) [] (by kernel_rfl) (by kernel_rfl) hS0 ?_
    repeat (refine tree_q (by rfl) (by rfl) (fun K hK => ?_); go_simp; refine hK _ ?_; clear hK K)
    refine tree_a (by rfl) (by rfl) (fun K hK => ?_)
    go_simp
    refine (row_any xw xc yw yc _).mono ?_
    rintro e w5 ⟨rfl, hb5⟩
    have hg5' := gw_trans (gw_drew (gw_refl wc)) hb5
    have hb5' := gw_bel hg5'
    have hS5 := HBS.out _ hb5'
    refine hK _ _ hS5 ?_
    clear hK K
    refine tree_a (by rfl) (by rfl) (fun K hK => ?_)
    go_simp
    refine (compare_any xt yt _).mono ?_
    rintro e w' ⟨rfl, rfl⟩
    refine hK _ _ hS5 ?_
    clear hK K
    refine tree_a (by rfl) (by rfl) (fun K hK => ?_)
    go_simp
    refine (compare_any xl yl _).mono ?_
    rintro e w' ⟨rfl, rfl⟩
    refine hK _ _ hS5 ?_
    clear hK K
    refine tree_a (by rfl) (by rfl) (fun K hK => ?_)
    go_simp
    refine (compare_any xb yb _).mono ?_
    rintro e w' ⟨rfl, rfl⟩
    refine hK _ _ hS5 ?_
    clear hK K
    refine tree_a (by rfl) (by rfl) (fun K hK => ?_)
    go_simp
    refine (compare_any xr yr _).mono ?_
    rintro e w' ⟨rfl, rfl⟩
    refine hK _ _ hS5 ?_
    clear hK K
    obtain ⟨z0, hz0⟩ : ∃ z, z = rowI xw xc yw yc := ⟨_, rfl⟩
    obtain ⟨z1, hz1⟩ : ∃ z, z = cmpI xt yt := ⟨_, rfl⟩
    obtain ⟨z2, hz2⟩ : ∃ z, z = cmpI xl yl := ⟨_, rfl⟩
    obtain ⟨z3, hz3⟩ : ∃ z, z = cmpI xb yb := ⟨_, rfl⟩
    obtain ⟨z4, hz4⟩ : ∃ z, z = cmpI xr yr := ⟨_, rfl⟩
    have HZ : Hid (R = orI [z0, z1, z2, z3, z4]) := HR.out.trans (by rw [hz0, hz1, hz2, hz3, hz4]; rfl)
    rw [← hz0, ← hz1, ← hz2, ← hz3, ← hz4]
    clear hz0 hz1 hz2 hz3 hz4
    refine tree_a (by rfl) (by rfl) (fun K hK => ?_)
    go_simp
    have hb6 := bel_alloc hb5' (.cells #[.int .i64 z0, .int .i64 z1, .int .i64 z2, .int .i64 z3, .int .i64 z4] 3)
    have hS6 := HBS.out _ hb6
    refine hK _ _ hS6 ?_
    clear hK K
    have kl := Blk.new w5 rfl 3 #[.int .i64 z0, .int .i64 z1, .int .i64 z2, .int .i64 z3, .int .i64 z4]
    refine tree_a (by rfl) (by rfl) (fun K hK => ?_)
    go_simp
    refine (or_any [z0, z1, z2, z3, z4] w5.heap.size 5 _ (by simp) (fun i z hz => ?_)).mono ?_
    · rw [kl.rd]
      match i, hz with
      | 0, hz => simpa using hz
      | 1, hz => simpa using hz
      | 2, hz => simpa using hz
      | 3, hz => simpa using hz
      | 4, hz => simpa using hz
      | i + 5, hz => simp at hz
    rintro e w' ⟨rfl, rfl⟩
    refine hK _ _ hS6 ?_
    clear hK K
    repeat (refine tree_q (by rfl) (by rfl) (fun K hK => ?_); go_simp; refine hK _ ?_; clear hK K)
    refine tree_nil ?_
    clear q0 q1 q2 q3 hS0 hS5 hS6 HSS HBS
    go_wp2_with fail
    go_ret
    exact ⟨by rw [HZ.out]; rfl, gw_trans hB4 (gw_alloc hg5' _)⟩
end Go.Proofs.Ytpgnebhlnkoajaa

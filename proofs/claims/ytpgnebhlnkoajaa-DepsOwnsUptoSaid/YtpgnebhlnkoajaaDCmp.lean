/-
  Deps: contracts of what orders cells and edges. Conditions: none.
-/
import Derived.Test.YtpgnebhlnkoajaaDPure
import Derived.Test.YtpgnebhlnkoajaaGa
namespace Go.Proofs.Ytpgnebhlnkoajaa
open Go.ChangeShapes Go.WideShapes Go.ChangeAt Go.RowKit Go.Deep
attribute [local go_sem] Cls

def edI (x y : Ed) : Int := orI [rowI x.row x.col y.row y.col, cmpI x.t y.t, cmpI x.l y.l, cmpI x.b y.b, cmpI x.r y.r, cmpI (bI x.m) (bI y.m)]
theorem edI_lt (x y : Ed) : edI x y < 0 ↔ ltE x y := by
  unfold edI rowI ltE
  have hn : ¬ orI [] < 0 := by decide
  simp only [(or_neg _ _).1, (or_neg _ _).2, (cmp_neg _ _).1, (cmp_neg _ _).2, hn]
  have h0 : orI [] = 0 := rfl
  simp only [h0, and_false, or_false, and_true]
  omega
set_option maxHeartbeats 1600000 in
theorem order_any (a b c d : Int) (w : World) : Calls Try.prog 35 #[.agg #[.int .i64 a, .int .i64 b], .agg #[.int .i64 c, .int .i64 d]] w fun e w' => e = .returned (.int .i64 (rowI a b c d)) ∧ Gw w w' := by
  obtain ⟨R, hR⟩ : ∃ R, R = rowI a b c d := ⟨_, rfl⟩
  rw [← hR]
  have HR := Lib.hid hR
  clear hR
  go_enter Try.func35, Try.ntmps35
  go_wp2_with fail
  have hB3 := gw_alloc (gw_alloc (gw_refl w) (.cells #[.int .i64 a, .int .i64 b] 33)) (.cells #[.int .i64 c, .int .i64 d] 33)
  have k2 := (Blk.new w rfl 33 #[.int .i64 a, .int .i64 b]).alloc (.cells #[.int .i64 c, .int .i64 d] 33)
  have k3 := Blk.new (w.alloc (.cells #[.int .i64 a, .int .i64 b] 33)) (g := w.heap.size + 1) (by simp) 33 #[.int .i64 c, .int .i64 d]
  generalize hwz : (w.alloc (.cells #[.int .i64 a, .int .i64 b] 33)).alloc (.cells #[.int .i64 c, .int .i64 d] 33) = w3 at hB3 k2 k3 ⊢
  clear hwz
  obtain ⟨S, hSS⟩ : ∃ S : World → Prop, S = fun w' => Blk w' w.heap.size 33 #[.int .i64 a, .int .i64 b] ∧ Blk w' (w.heap.size + 1) 33 #[.int .i64 c, .int .i64 d] := ⟨_, rfl⟩
  have q0 := fun x => (held_of hSS x).1.rd
  have q1 := fun x => (held_of hSS x).2.rd
  have HSS := Lib.hid hSS
  have hS0 : S w3.drew := held_in HSS.out ⟨k2.drew, k3.drew⟩
  haveI : Nonempty (Held S) := ⟨⟨_, hS0⟩⟩
  clear hSS
  refine wp_region_tree (S := S) 13 (.q 0 <| .q 1 <| .q 2 <| .q 3 <| .q 5 <| .q 6 <| .q 7 <| .q 8 <| .a 4 <| .a 9 <| .a 10 <| .a 11 <| .q 12 <| .done) [] (by kernel_rfl) (by kernel_rfl) hS0 ?_
  repeat (refine tree_q (by rfl) (by rfl) (fun K hK => ?_); go_simp; refine hK _ ?_; clear hK K)
  refine tree_a (by rfl) (by rfl) (fun K hK => ?_)
  go_simp
  refine (compare_any a c _).mono ?_
  rintro e w' ⟨rfl, rfl⟩
  refine hK _ _ hS0 ?_
  clear hK K
  refine tree_a (by rfl) (by rfl) (fun K hK => ?_)
  go_simp
  refine (compare_any b d _).mono ?_
  rintro e w' ⟨rfl, rfl⟩
  refine hK _ _ hS0 ?_
  clear hK K
  obtain ⟨x, hx⟩ : ∃ x, x = cmpI a c := ⟨_, rfl⟩
  obtain ⟨y, hy⟩ : ∃ y, y = cmpI b d := ⟨_, rfl⟩
  have HROW : Hid (R = orI [x, y]) := HR.out.trans (by rw [hx, hy]; rfl)
  rw [← hx, ← hy]
  clear hx hy
  refine tree_a (by rfl) (by rfl) (fun K hK => ?_)
  go_simp
  have hS1 : S (w3.alloc (.cells #[.int .i64 x, .int .i64 y] 3)).drew := held_in HSS.out ⟨(k2.alloc _).drew, (k3.alloc _).drew⟩
  refine hK _ _ hS1 ?_
  clear hK K
  have kl := (Blk.new w3 rfl 3 #[.int .i64 x, .int .i64 y]).drew
  refine tree_a (by rfl) (by rfl) (fun K hK => ?_)
  go_simp
  refine (or_any [x, y] w3.heap.size 2 _ (by simp) (fun i z hz => ?_)).mono ?_
  · rw [kl.rd]
    match i, hz with
    | 0, hz => simpa using hz
    | 1, hz => simpa using hz
    | i + 2, hz => simp at hz
  rintro e w' ⟨rfl, rfl⟩
  refine hK _ _ hS1 ?_
  clear hK K
  repeat (refine tree_q (by rfl) (by rfl) (fun K hK => ?_); go_simp; refine hK _ ?_; clear hK K)
  refine tree_nil ?_
  clear q0 q1 hS0 hS1 HSS
  go_wp2_with fail
  go_ret
  exact ⟨by rw [HROW.out]; rfl, gw_trans hB3 (gw_drew (gw_alloc (gw_refl w3) _))⟩

theorem many_any (m : Bool) (t l b r : Int) (w : World) : Calls Try.prog 53 #[.agg #[.bool m, .int .i64 t, .int .i64 l, .int .i64 b, .int .i64 r]] w fun e w' => e = .returned (.int .i64 (bI m)) ∧ Gw w w' := by
  have hB := gw_alloc (gw_refl w) (.cells #[.bool m, .int .i64 t, .int .i64 l, .int .i64 b, .int .i64 r] 49)
  cases m with
  | true =>
    go_enter Try.func53, Try.ntmps53
    go_wp2_with fail
    go_ret
    exact ⟨rfl, hB⟩
  | false =>
    go_enter Try.func53, Try.ntmps53
    go_wp2_with fail
    go_ret
    exact ⟨rfl, hB⟩
set_option maxHeartbeats 3200000 in
set_option maxRecDepth 100000 in
theorem sclose_any (xw xc xt xl xb xr yw yc yt yl yb yr : Int) (xm ym : Bool) (w : World) : Calls Try.prog 52 #[.agg #[.int .i64 xw, .int .i64 xc, .bool xm, .int .i64 xt, .int .i64 xl, .int .i64 xb, .int .i64 xr], .agg #[.int .i64 yw, .int .i64 yc, .bool ym, .int .i64 yt, .int .i64 yl, .int .i64 yb, .int .i64 yr]] w fun e w' => e = .returned (.int .i64 (edI ⟨xw, xc, xm, xt, xl, xb, xr⟩ ⟨yw, yc, ym, yt, yl, yb, yr⟩)) ∧ Gw w w' := by
  obtain ⟨R, hR⟩ : ∃ R, R = edI ⟨xw, xc, xm, xt, xl, xb, xr⟩ ⟨yw, yc, ym, yt, yl, yb, yr⟩ := ⟨_, rfl⟩
  rw [← hR]
  have HR := Lib.hid hR
  clear hR
  go_enter Try.func52, Try.ntmps52
  go_upto_region 1 with fail
  have hB3 := gw_alloc (gw_alloc (gw_refl w) (.cells #[.int .i64 xw, .int .i64 xc, .bool xm, .int .i64 xt, .int .i64 xl, .int .i64 xb, .int .i64 xr] 51)) (.cells #[.int .i64 yw, .int .i64 yc, .bool ym, .int .i64 yt, .int .i64 yl, .int .i64 yb, .int .i64 yr] 51)
  have k2 := (Blk.new w rfl 51 #[.int .i64 xw, .int .i64 xc, .bool xm, .int .i64 xt, .int .i64 xl, .int .i64 xb, .int .i64 xr]).alloc (.cells #[.int .i64 yw, .int .i64 yc, .bool ym, .int .i64 yt, .int .i64 yl, .int .i64 yb, .int .i64 yr] 51)
  have k3 := Blk.new (w.alloc (.cells #[.int .i64 xw, .int .i64 xc, .bool xm, .int .i64 xt, .int .i64 xl, .int .i64 xb, .int .i64 xr] 51)) (g := w.heap.size + 1) (by simp) 51 #[.int .i64 yw, .int .i64 yc, .bool ym, .int .i64 yt, .int .i64 yl, .int .i64 yb, .int .i64 yr]
  generalize hwz : (w.alloc (.cells #[.int .i64 xw, .int .i64 xc, .bool xm, .int .i64 xt, .int .i64 xl, .int .i64 xb, .int .i64 xr] 51)).alloc (.cells #[.int .i64 yw, .int .i64 yc, .bool ym, .int .i64 yt, .int .i64 yl, .int .i64 yb, .int .i64 yr] 51) = w3 at hB3 k2 k3 ⊢
  clear hwz
  go_cut [5, 6] (fun s5 s6 wx => ∃ p5 p6, s5 = .pointer (some ⟨p5, 0, none⟩) ∧ s6 = .pointer (some ⟨p6, 0, none⟩) ∧ Blk wx p5 47 #[.int .i64 xt, .int .i64 xl, .int .i64 xb, .int .i64 xr] ∧ Blk wx p6 47 #[.int .i64 yt, .int .i64 yl, .int .i64 yb, .int .i64 yr] ∧ Gw w3 wx)
  case first =>
    obtain ⟨S, hSS⟩ : ∃ S : World → Prop, S = fun w' => Blk w' w.heap.size 51 #[.int .i64 xw, .int .i64 xc, .bool xm, .int .i64 xt, .int .i64 xl, .int .i64 xb, .int .i64 xr] ∧ Blk w' (w.heap.size + 1) 51 #[.int .i64 yw, .int .i64 yc, .bool ym, .int .i64 yt, .int .i64 yl, .int .i64 yb, .int .i64 yr] := ⟨_, rfl⟩
    have q0 := fun x => (held_of hSS x).1.rd
    have q1 := fun x => (held_of hSS x).2.rd
    have HSS := Lib.hid hSS
    have hBS : ∀ wx : World, Below w3.heap.size w3 wx → S wx := fun wx hb => held_in HSS.out ⟨k2.below hb, k3.below hb⟩
    have HBS := Lib.hid hBS
    clear hSS hBS
    have hS0 := HBS.out _ (bel_drew (bel_refl w3))
    haveI : Nonempty (Held S) := ⟨⟨_, hS0⟩⟩
    refine wp_region_tree (S := S) 10 (.q 0 <| .q 1 <| .q 2 <| .q 3 <| .q 4 <| .q 5 <| .fork 6 (.a 7 <| .a 8 <| .a 9 <| .done) 7 (.a 6 <| .a 8 <| .a 9 <| .done)) [] (by kernel_rfl) (by kernel_rfl) hS0 ?_
    repeat (refine tree_q (by rfl) (by rfl) (fun K hK => ?_); go_simp; refine hK _ ?_; clear hK K)
    refine tree_f (by rfl) (by rfl) (by rfl) (by rfl) (fun K hK => ?_) (fun K hK => ?_)
    · go_simp
      refine hK _ _ (HBS.out _ (bel_drew (bel_alloc (bel_refl w3) (.cells #[.int .i64 0, .int .i64 0, .int .i64 0, .int .i64 0] 47)))) ?_
      clear hK K
      refine tree_a (by rfl) (by rfl) (fun K hK => ?_)
      go_simp
      refine hK _ _ (HBS.out _ (bel_drew (bel_alloc (bel_alloc (bel_refl w3) (.cells #[.int .i64 0, .int .i64 0, .int .i64 0, .int .i64 0] 47)) (.cells #[.int .i64 0, .int .i64 0, .int .i64 0, .int .i64 0] 47)))) ?_
      clear hK K
      refine tree_a (by rfl) (by rfl) (fun K hK => ?_)
      go_simp
      refine hK _ _ (HBS.out _ (bel_drew (bel_alloc (bel_alloc (bel_refl w3) (.cells #[.int .i64 xt, .int .i64 xl, .int .i64 xb, .int .i64 xr] 47)) (.cells #[.int .i64 0, .int .i64 0, .int .i64 0, .int .i64 0] 47)))) ?_
      clear hK K
      refine tree_a (by rfl) (by rfl) (fun K hK => ?_)
      go_simp
      refine hK _ _ (HBS.out _ (bel_drew (bel_alloc (bel_alloc (bel_refl w3) (.cells #[.int .i64 xt, .int .i64 xl, .int .i64 xb, .int .i64 xr] 47)) (.cells #[.int .i64 yt, .int .i64 yl, .int .i64 yb, .int .i64 yr] 47)))) ?_
      clear hK K
      refine tree_nil ?_
      have k8 := ((Blk.new w3 rfl 47 #[.int .i64 xt, .int .i64 xl, .int .i64 xb, .int .i64 xr]).alloc (.cells #[.int .i64 yt, .int .i64 yl, .int .i64 yb, .int .i64 yr] 47)).drew
      have k9 := (Blk.new (w3.alloc (.cells #[.int .i64 xt, .int .i64 xl, .int .i64 xb, .int .i64 xr] 47)) (g := w3.heap.size + 1) (by simp) 47 #[.int .i64 yt, .int .i64 yl, .int .i64 yb, .int .i64 yr]).drew
      go_wp2_with fail
      go_meet
      case rel => exact ⟨_, _, rfl, rfl, k8, k9, (gw_drew (gw_alloc (gw_alloc (gw_refl w3) (.cells #[.int .i64 xt, .int .i64 xl, .int .i64 xb, .int .i64 xr] 47)) (.cells #[.int .i64 yt, .int .i64 yl, .int .i64 yb, .int .i64 yr] 47)))⟩
    · go_simp
      refine hK _ _ (HBS.out _ (bel_drew (bel_alloc (bel_refl w3) (.cells #[.int .i64 0, .int .i64 0, .int .i64 0, .int .i64 0] 47)))) ?_
      clear hK K
      refine tree_a (by rfl) (by rfl) (fun K hK => ?_)
      go_simp
      refine hK _ _ (HBS.out _ (bel_drew (bel_alloc (bel_alloc (bel_refl w3) (.cells #[.int .i64 0, .int .i64 0, .int .i64 0, .int .i64 0] 47)) (.cells #[.int .i64 0, .int .i64 0, .int .i64 0, .int .i64 0] 47)))) ?_
      clear hK K
      refine tree_a (by rfl) (by rfl) (fun K hK => ?_)
      go_simp
      refine hK _ _ (HBS.out _ (bel_drew (bel_alloc (bel_alloc (bel_refl w3) (.cells #[.int .i64 0, .int .i64 0, .int .i64 0, .int .i64 0] 47)) (.cells #[.int .i64 xt, .int .i64 xl, .int .i64 xb, .int .i64 xr] 47)))) ?_
      clear hK K
      refine tree_a (by rfl) (by rfl) (fun K hK => ?_)
      go_simp
      refine hK _ _ (HBS.out _ (bel_drew (bel_alloc (bel_alloc (bel_refl w3) (.cells #[.int .i64 yt, .int .i64 yl, .int .i64 yb, .int .i64 yr] 47)) (.cells #[.int .i64 xt, .int .i64 xl, .int .i64 xb, .int .i64 xr] 47)))) ?_
      clear hK K
      refine tree_nil ?_
      have k8 := (Blk.new (w3.alloc (.cells #[.int .i64 yt, .int .i64 yl, .int .i64 yb, .int .i64 yr] 47)) (g := w3.heap.size + 1) (by simp) 47 #[.int .i64 xt, .int .i64 xl, .int .i64 xb, .int .i64 xr]).drew
      have k9 := ((Blk.new w3 rfl 47 #[.int .i64 yt, .int .i64 yl, .int .i64 yb, .int .i64 yr]).alloc (.cells #[.int .i64 xt, .int .i64 xl, .int .i64 xb, .int .i64 xr] 47)).drew
      go_wp2_with fail
      go_meet
      case rel => exact ⟨_, _, rfl, rfl, k8, k9, (gw_drew (gw_alloc (gw_alloc (gw_refl w3) (.cells #[.int .i64 yt, .int .i64 yl, .int .i64 yb, .int .i64 yr] 47)) (.cells #[.int .i64 xt, .int .i64 xl, .int .i64 xb, .int .i64 xr] 47)))⟩
  case rest =>
    obtain ⟨p5, p6, rfl, rfl, k5, k6, hg4⟩ := hcut
    have hb4 := gw_bel hg4
    replace k2 := k2.below hb4
    replace k3 := k3.below hb4
    have hB4 := gw_trans hB3 hg4
    clear hb4
    obtain ⟨S, hSS⟩ : ∃ S : World → Prop, S = fun w' => (Blk w' w.heap.size 51 #[.int .i64 xw, .int .i64 xc, .bool xm, .int .i64 xt, .int .i64 xl, .int .i64 xb, .int .i64 xr] ∧ Blk w' (w.heap.size + 1) 51 #[.int .i64 yw, .int .i64 yc, .bool ym, .int .i64 yt, .int .i64 yl, .int .i64 yb, .int .i64 yr]) ∧ Blk w' p5 47 #[.int .i64 xt, .int .i64 xl, .int .i64 xb, .int .i64 xr] ∧ Blk w' p6 47 #[.int .i64 yt, .int .i64 yl, .int .i64 yb, .int .i64 yr] := ⟨_, rfl⟩
    have q0 := fun x => (held_of hSS x).1.1.rd
    have q1 := fun x => (held_of hSS x).1.2.rd
    have q2 := fun x => (held_of hSS x).2.1.rd
    have q3 := fun x => (held_of hSS x).2.2.rd
    have HSS := Lib.hid hSS
    have hBS : ∀ wx : World, Below wc.heap.size wc wx → S wx := fun wx hb => held_in HSS.out ⟨⟨k2.below hb, k3.below hb⟩, k5.below hb, k6.below hb⟩
    have HBS := Lib.hid hBS
    clear hSS hBS
    have hS0 := HBS.out _ (bel_drew (bel_refl wc))
    haveI : Nonempty (Held S) := ⟨⟨_, hS0⟩⟩
    go_wp2_with fail
    refine wp_region_tree (S := S) 37 (.q 0 <| .q 1 <| .q 2 <| .q 3 <| .q 5 <| .q 6 <| .q 7 <| .q 8 <| .q 10 <| .q 11 <| .q 12 <| .q 13 <| .q 15 <| .q 16 <| .q 17 <| .q 18 <| .q 20 <| .q 21 <| .q 22 <| .q 23 <| .q 25 <| .q 26 <| .q 27 <| .q 29 <| .q 30 <| .q 31 <| .a 4 <| .a 9 <| .a 14 <| .a 19 <| .a 24 <| .a 28 <| .a 32 <| .a 33 <| .a 34 <| .a 35 <| .q 36 <| .done) [] (by kernel_rfl) (by kernel_rfl) hS0 ?_
    repeat (refine tree_q (by rfl) (by rfl) (fun K hK => ?_); go_simp; refine hK _ ?_; clear hK K)
    refine tree_a (by rfl) (by rfl) (fun K hK => ?_)
    go_simp
    refine (order_any xw xc yw yc _).mono ?_
    rintro e w5 ⟨rfl, hb5⟩
    have hg5' := gw_trans (gw_drew (gw_refl wc)) hb5
    have hb5' := gw_bel hg5'
    have hS5 := HBS.out _ hb5'
    refine hK _ _ hS5 ?_
    clear hK K
    refine tree_a (by rfl) (by rfl) (fun K hK => ?_)
    go_simp
    refine (compare_any xt yt _).mono ?_
    rintro e w' ⟨rfl, rfl⟩
    refine hK _ _ hS5 ?_
    clear hK K
    refine tree_a (by rfl) (by rfl) (fun K hK => ?_)
    go_simp
    refine (compare_any xl yl _).mono ?_
    rintro e w' ⟨rfl, rfl⟩
    refine hK _ _ hS5 ?_
    clear hK K
    refine tree_a (by rfl) (by rfl) (fun K hK => ?_)
    go_simp
    refine (compare_any xb yb _).mono ?_
    rintro e w' ⟨rfl, rfl⟩
    refine hK _ _ hS5 ?_
    clear hK K
    refine tree_a (by rfl) (by rfl) (fun K hK => ?_)
    go_simp
    refine (compare_any xr yr _).mono ?_
    rintro e w' ⟨rfl, rfl⟩
    refine hK _ _ hS5 ?_
    clear hK K
    refine tree_a (by rfl) (by rfl) (fun K hK => ?_)
    go_simp
    refine (many_any xm xt xl xb xr _).mono ?_
    rintro e w7 ⟨rfl, hm7⟩
    have hg7' := gw_trans hg5' hm7
    have hb7' := gw_bel hg7'
    have hS7 := HBS.out _ hb7'
    refine hK _ _ hS7 ?_
    clear hK K
    refine tree_a (by rfl) (by rfl) (fun K hK => ?_)
    go_simp
    refine (many_any ym yt yl yb yr _).mono ?_
    rintro e w8 ⟨rfl, hm8⟩
    have hg8' := gw_trans hg7' hm8
    have hb8' := gw_bel hg8'
    have hS8 := HBS.out _ hb8'
    refine hK _ _ hS8 ?_
    clear hK K
    refine tree_a (by rfl) (by rfl) (fun K hK => ?_)
    go_simp
    refine (compare_any (bI xm) (bI ym) _).mono ?_
    rintro e w' ⟨rfl, rfl⟩
    refine hK _ _ hS8 ?_
    clear hK K
    obtain ⟨z5, hz5⟩ : ∃ z, z = cmpI (bI xm) (bI ym) := ⟨_, rfl⟩
    obtain ⟨z0, hz0⟩ : ∃ z, z = rowI xw xc yw yc := ⟨_, rfl⟩
    obtain ⟨z1, hz1⟩ : ∃ z, z = cmpI xt yt := ⟨_, rfl⟩
    obtain ⟨z2, hz2⟩ : ∃ z, z = cmpI xl yl := ⟨_, rfl⟩
    obtain ⟨z3, hz3⟩ : ∃ z, z = cmpI xb yb := ⟨_, rfl⟩
    obtain ⟨z4, hz4⟩ : ∃ z, z = cmpI xr yr := ⟨_, rfl⟩
    have HZ : Hid (R = orI [z0, z1, z2, z3, z4, z5]) := HR.out.trans (by rw [hz0, hz1, hz2, hz3, hz4, hz5]; rfl)
    rw [← hz0, ← hz1, ← hz2, ← hz3, ← hz4, ← hz5]
    clear hz0 hz1 hz2 hz3 hz4 hz5
    refine tree_a (by rfl) (by rfl) (fun K hK => ?_)
    go_simp
    have hb6 := bel_alloc hb8' (.cells #[.int .i64 z0, .int .i64 z1, .int .i64 z2, .int .i64 z3, .int .i64 z4, .int .i64 z5] 3)
    have hS6 := HBS.out _ hb6
    refine hK _ _ hS6 ?_
    clear hK K
    have kl := Blk.new w8 rfl 3 #[.int .i64 z0, .int .i64 z1, .int .i64 z2, .int .i64 z3, .int .i64 z4, .int .i64 z5]
    refine tree_a (by rfl) (by rfl) (fun K hK => ?_)
    go_simp
    refine (or_any [z0, z1, z2, z3, z4, z5] w8.heap.size 6 _ (by simp) (fun i z hz => ?_)).mono ?_
    · rw [kl.rd]
      match i, hz with
      | 0, hz => simpa using hz
      | 1, hz => simpa using hz
      | 2, hz => simpa using hz
      | 3, hz => simpa using hz
      | 4, hz => simpa using hz
      | 5, hz => simpa using hz
      | i + 6, hz => simp at hz
    rintro e w' ⟨rfl, rfl⟩
    refine hK _ _ hS6 ?_
    clear hK K
    repeat (refine tree_q (by rfl) (by rfl) (fun K hK => ?_); go_simp; refine hK _ ?_; clear hK K)
    refine tree_nil ?_
    clear q0 q1 q2 q3 hS0 hS5 hS6 HSS HBS
    go_wp2_with fail
    go_ret
    exact ⟨by rw [HZ.out]; rfl, gw_trans hB4 (gw_alloc hg8' _)⟩
end Go.Proofs.Ytpgnebhlnkoajaa

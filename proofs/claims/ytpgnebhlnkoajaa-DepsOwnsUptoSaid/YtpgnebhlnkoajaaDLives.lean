/-
  Deps: contract of the law's own lives. Conditions: none.
-/
import Derived.Test.YtpgnebhlnkoajaaDHelp
namespace Go.Proofs.Ytpgnebhlnkoajaa
open Go.ChangeShapes Go.WideShapes Go.ChangeAt Go.RowKit Go.Deep
attribute [local go_sem] Cls

set_option maxHeartbeats 6400000 in
set_option maxRecDepth 100000 in
theorem dlives_any (w : World) : Calls Try.prog 19 #[] w fun e w' => e = .returned (.bool true) ∧ Below w.heap.size w w' := by
  go_enter Try.func19, Try.ntmps19
  go_wp2_with fail
  refine (ds_new _).mono ?_
  rintro e w1 ⟨db, Ow, rfl, hD, hO, hb1⟩
  have hW := hb1
  clear hb1
  go_upto_region 6 with fail
  have k2 := (Blk.new w1 rfl 33 #[.int .i64 1, .int .i64 2]).alloc (.cells #[.bool true, .int .i64 1, .int .i64 1, .int .i64 3, .int .i64 1] 49)
  have k3 := Blk.new (w1.alloc (.cells #[.int .i64 1, .int .i64 2] 33)) (g := w1.heap.size + 1) (by simp) 49 #[.bool true, .int .i64 1, .int .i64 1, .int .i64 3, .int .i64 1]
  have hb3 := bel_alloc (bel_alloc (bel_refl w1) (.cells #[.int .i64 1, .int .i64 2] 33)) (.cells #[.bool true, .int .i64 1, .int .i64 1, .int .i64 3, .int .i64 1] 49)
  have hD3 := hD.below hb3
  have hW3 := bel_call hW hb3
  have hOl := hD.lt
  generalize hwz : (w1.alloc (.cells #[.int .i64 1, .int .i64 2] 33)).alloc (.cells #[.bool true, .int .i64 1, .int .i64 1, .int .i64 3, .int .i64 1] 49) = w3 at k2 k3 hD3 hW3 ⊢
  obtain ⟨g2, hg2⟩ : ∃ g2, g2 = w1.heap.size := ⟨_, rfl⟩
  obtain ⟨g3, hg3⟩ : ∃ g3, g3 = w1.heap.size + 1 := ⟨_, rfl⟩
  rw [← hg2] at k2
  rw [← hg3] at k3
  try rw [← hg3]
  try rw [← hg2]
  have h2O : ¬ Ow g2 := fun hz => by have := hOl _ hz; omega
  have h3O : ¬ Ow g3 := fun hz => by have := hOl _ hz; omega
  have h23 : w.heap.size ≤ g2 ∧ w.heap.size ≤ g3 := by have := hW.size; omega
  clear hwz hb3 hD hW hg2 hg3
  have rd2 := k2.rd
  have rd3 := k3.rd
  go_wp2_with fail
  have hb4 := bel_alloc (bel_refl w3) (.cells #[.bool true, .int .i64 1, .int .i64 1, .int .i64 3, .int .i64 1] 49)
  have hli : Lies KF (w3.alloc (.cells #[.bool true, .int .i64 1, .int .i64 1, .int .i64 3, .int .i64 1] 49)) (some ⟨w3.heap.size, 0, none⟩) [(⟨true, 1, 1, 3, 1⟩ : Rf)] := Lies.blk (Blk.new w3 rfl 49 #[.bool true, .int .i64 1, .int .i64 1, .int .i64 3, .int .i64 1]) rfl
  refine (ds_set db 0 Ow [] 1 2 [⟨true, 1, 1, 3, 1⟩] (some ⟨w3.heap.size, 0, none⟩) 1 _ (hD3.below hb4) hli (fun x hx b off hb hz => by
    injection hb with hb
    injection hb with hb _ _
    have := hD3.lt _ hz
    omega) (by decide)).mono ?_
  rintro e w5 ⟨Ow5, rfl, hD5, hF5, hO5⟩
  rw [show setE ⟨1, 2⟩ [⟨true, 1, 1, 3, 1⟩] = 0 from by decide]
  rw [show setD ⟨1, 2⟩ [⟨true, 1, 1, 3, 1⟩] [] = [⟨1, 2, true, 1, 1, 3, 1⟩] from by decide] at hD5
  have k25 := hF5.blk (k2.below hb4) h2O
  have k35 := hF5.blk (k3.below hb4) h3O
  have hW5 := hF5.bel (bel_call hW3 hb4) (fun z hz => hO z hz)
  have h2O5 : ¬ Ow5 g2 := fun hz => (hO5 _ hz).elim h2O (fun h => by have := k2.lt; simp at h; omega)
  have h3O5 : ¬ Ow5 g3 := fun hz => (hO5 _ hz).elim h3O (fun h => by have := k3.lt; simp at h; omega)
  have hO55 : ∀ z, Ow5 z → w.heap.size ≤ z := fun z hz => (hO5 z hz).elim (hO z) (fun h => by have := hW3.size; simp at h; omega)
  clear hD3 hF5 hO5 hli hb4 k2 k3 hW3 h2O h3O rd2 rd3 hO hOl
  go_wp2_with fail
  refine (ds_direct db _ Ow5 [⟨1, 2, true, 1, 1, 3, 1⟩] 2 1 _ hD5 (by unfold rngC i64P; decide) (by decide)).mono ?_
  rintro e w6 ⟨v6, rfl, hO6, hb6⟩
  rw [show drs 2 1 [⟨1, 2, true, 1, 1, 3, 1⟩] = [⟨1, 2⟩] from by decide] at hO6
  obtain ⟨A6, c6, rfl, _, _, hl6, _⟩ := hO6.see
  obtain ⟨g6, o6, rfl, hg6, x0, x1⟩ := cl_at hl6 (i := 0) rfl
  rw [Nat.zero_mul, Nat.add_zero] at x0 x1
  have hD6 := hD5.below hb6
  have k26 := k25.below hb6
  have k36 := k35.below hb6
  have hW6 := bel_call hW5 hb6
  have h65 : w5.heap.size ≤ g6 := (hO6.lt g6 rfl).1
  have hOl5 := hD5.lt
  clear hD5 k25 k35 hW5 hO6 hl6
  go_wp2_with fail
  refine (ds_edges db _ Ow5 [⟨1, 2, true, 1, 1, 3, 1⟩] _ hD6 (by decide)).mono ?_
  rintro e w7 ⟨v7, rfl, hO7, hb7⟩
  obtain ⟨A7, c7, rfl, _, _, hl7, _⟩ := hO7.see
  obtain ⟨g7, o7, rfl, hg7, y0, y1, y2, y3, y4, y5, y6⟩ := ed_at hl7 (i := 0) rfl
  rw [Nat.zero_mul, Nat.add_zero] at y0 y1 y2 y3 y4 y5 y6
  have h76 : w6.heap.size ≤ g7 := (hO7.lt g7 rfl).1
  have x0 := (hb7.cell (p := ⟨g6, o6, none⟩) hg6).trans x0
  have x1 := (hb7.cell (p := ⟨g6, o6 + 1, none⟩) hg6).trans x1
  have hD7 := hD6.below hb7
  have k27 := k26.below hb7
  have k37 := k36.below hb7
  have hW7 := bel_call hW6 hb7
  have hg67 : g6 < w7.heap.size := Nat.lt_of_lt_of_le hg6 hb7.size
  have h6O : ¬ Ow5 g6 := fun hz => by have := hOl5 _ hz; omega
  have h7O : ¬ Ow5 g7 := fun hz => by have := hD6.lt _ hz; omega
  clear hD6 k26 k36 hW6 hO7 hl7 hb7 hb6
  have hE1 := fun W => eql_cell W 1 2 1 2
  have hE2 := fun W => eql_ed W 1 2 1 1 3 1 1 2 1 1 3 1 true true
  go_wp2_with fail
  obtain ⟨S, hSS⟩ : ∃ S : World → Prop, S = fun w' => Blk w' g2 33 #[.int .i64 1, .int .i64 2] ∧ Blk w' g3 49 #[.bool true, .int .i64 1, .int .i64 1, .int .i64 3, .int .i64 1] ∧ (∀ o, w'.cell? ⟨g6, o, none⟩ = w7.cell? ⟨g6, o, none⟩) ∧ (∀ o, w'.cell? ⟨g7, o, none⟩ = w7.cell? ⟨g7, o, none⟩) := ⟨_, rfl⟩
  have q0 := fun x => (held_of hSS x).1.rd
  have q1 := fun x => (held_of hSS x).2.1.rd
  have q2 := fun x => ((held_of hSS x).2.2.1 o6).trans x0
  have q3 := fun x => ((held_of hSS x).2.2.1 (o6 + 1)).trans x1
  have r0 := fun x => ((held_of hSS x).2.2.2 o7).trans y0
  have r1 := fun x => ((held_of hSS x).2.2.2 (o7 + 1)).trans y1
  have r2 := fun x => ((held_of hSS x).2.2.2 (o7 + 2)).trans y2
  have r3 := fun x => ((held_of hSS x).2.2.2 (o7 + 3)).trans y3
  have r4 := fun x => ((held_of hSS x).2.2.2 (o7 + 4)).trans y4
  have r5 := fun x => ((held_of hSS x).2.2.2 (o7 + 5)).trans y5
  have r6 := fun x => ((held_of hSS x).2.2.2 (o7 + 6)).trans y6
  have HSS := Lib.hid hSS
  have hS0 : S w7.drew := held_in HSS.out ⟨k27.drew, k37.drew, fun o => rfl, fun o => rfl⟩
  haveI : Nonempty (Held S) := ⟨⟨_, hS0⟩⟩
  clear hSS x0 x1 y0 y1 y2 y3 y4 y5 y6
  refine wp_region_tree (S := S) 35 (.q 0 <| .q 1 <| .q 2 <| .q 3 <| .q 4 <| .q 5 <| .q 6 <| .q 7 <| .q 8 <| .q 9 <| .q 10 <| .q 11 <| .q 12 <| .q 13 <| .q 14 <| .q 15 <| .q 16 <| .q 17 <| .q 18 <| .q 19 <| .q 20 <| .q 21 <| .q 22 <| .q 23 <| .q 24 <| .q 25 <| .q 26 <| .q 27 <| .q 28 <| .q 29 <| .q 30 <| .a 31 <| .q 32 <| .q 33 <| .q 34 <| .done) [] (by kernel_rfl) (by kernel_rfl) hS0 ?_
  repeat (first | (refine tree_q (by rfl) (by rfl) (fun K hK => ?_); go_simp; refine hK _ ?_; clear hK K) | (refine tree_qg (by rfl) (by rfl) (by rfl) (fun K hK => ?_); go_simp; refine hK _ ?_; clear hK K) | (refine tree_qn (by rfl) (by rfl) (by rfl) rfl ?_; go_simp))
  refine tree_ag (by rfl) (by rfl) (by rfl) (fun K hK => ?_)
  go_simp
  refine (ds_set db _ Ow5 [⟨1, 2, true, 1, 1, 3, 1⟩] 0 0 [] none 0 _ (hD7.below (bel_drew (bel_refl w7))) (Lies.nil _ _) (fun x hx => by cases hx) (by decide)).mono ?_
  rintro e w8 ⟨Ow8, rfl, _, hF8, _⟩
  rw [show setE ⟨0, 0⟩ [] = 3 from by decide]
  have hW8 := hF8.bel (bel_drew hW7) (fun z hz => hO55 z hz)
  refine hK _ _ (held_in HSS.out ⟨hF8.blk k27.drew h2O5, hF8.blk k37.drew h3O5, fun o => hF8.cell (by exact hg67) h6O o, fun o => hF8.cell (by exact hg7) h7O o⟩) ?_
  clear hK K
  repeat (first | (refine tree_q (by rfl) (by rfl) (fun K hK => ?_); go_simp; refine hK _ ?_; clear hK K) | (refine tree_qg (by rfl) (by rfl) (by rfl) (fun K hK => ?_); go_simp; refine hK _ ?_; clear hK K) | (refine tree_qn (by rfl) (by rfl) (by rfl) rfl ?_; go_simp))
  refine tree_nil ?_
  clear q0 q1 q2 q3 r0 r1 r2 r3 r4 r5 r6 hS0 HSS hE1 hE2
  go_wp2_with fail
  go_ret
  exact ⟨rfl, hW8⟩
end Go.Proofs.Ytpgnebhlnkoajaa

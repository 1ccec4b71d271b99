/-
  Deps: contracts of what orders cells and edges. Conditions: none.
-/
import Derived.Test.YtdionganlmnlkaaDPure
import Derived.Test.YtdionganlmnlkaaGa
namespace Go.Proofs.Ytdionganlmnlkaa
open Go.ChangeShapes Go.WideShapes Go.ChangeAt Go.RowKit Go.Deep
attribute [local go_sem] Cls

def edI (x y : Ed) : Int := orI [rowI x.row x.col y.row y.col, cmpI x.t y.t, cmpI x.l y.l, cmpI x.b y.b, cmpI x.r y.r, cmpI (bI x.m) (bI y.m)]
theorem edI_lt (x y : Ed) : edI x y < 0 ↔ ltE x y := by
  unfold edI rowI ltE
  have hn : ¬ orI [] < 0 := by decide
  simp only [(or_neg _ _).1, (or_neg _ _).2, (cmp_neg _ _).1, (cmp_neg _ _).2, hn]
  have h0 : orI [] = 0 := rfl
  simp only [h0, and_false, or_false, and_true]
  omega
set_option maxHeartbeats 1600000 in
theorem order_any (a b c d : Int) (w : World) : Calls Try.prog 49 #[.agg #[.int .i64 a, .int .i64 b], .agg #[.int .i64 c, .int .i64 d]] w fun e w' => e = .returned (.int .i64 (rowI a b c d)) ∧ Gw w w' := by
  obtain ⟨R, hR⟩ : ∃ R, R = rowI a b c d := ⟨_, rfl⟩
  rw [← hR]
  have HR := Lib.hid hR
  clear hR
  go_enter Try.func49, Try.ntmps49
  go_wp2_with fail
  have hB3 := gw_alloc (gw_alloc (gw_refl w) (.cells #[.int .i64 a, .int .i64 b] 32)) (.cells #[.int .i64 c, .int .i64 d] 32)
  have k2 := (Blk.new w rfl 32 #[.int .i64 a, .int .i64 b]).alloc (.cells #[.int .i64 c, .int .i64 d] 32)
  have k3 := Blk.new (w.alloc (.cells #[.int .i64 a, .int .i64 b] 32)) (g := w.heap.size + 1) (by simp) 32 #[.int .i64 c, .int .i64 d]
  generalize hwz : (w.alloc (.cells #[.int .i64 a, .int .i64 b] 32)).alloc (.cells #[.int .i64 c, .int .i64 d] 32) = w3 at hB3 k2 k3 ⊢
  clear hwz
  obtain ⟨S, hSS⟩ : ∃ S : World → Prop, S = fun w' => Blk w' w.heap.size 32 #[.int .i64 a, .int .i64 b] ∧ Blk w' (w.heap.size + 1) 32 #[.int .i64 c, .int .i64 d] := ⟨_, rfl⟩
  have q0 := fun x => (held_of hSS x).1.rd
  have q1 := fun x => (held_of hSS x).2.rd
  have HSS := Lib.hid hSS
  have hS0 : S w3.drew := held_in HSS.out ⟨k2.drew, k3.drew⟩
  haveI : Nonempty (Held S) := ⟨⟨_, hS0⟩⟩
  clear hSS
  refine wp_region_tree (S := S) 13 (.q 0 <| .q 1 <| .q 2 <| .q 3 <| .q 5 <| .q 6 <| .q 7 <| .q 8 <| .a 4 <| .a 9 <| .a 10 <| .a 11 <| .q 12 <| .done) [] (by kernel_rfl) (by kernel_rfl) hS0 ?_
  repeat (refine tree_q (by rfl) (by rfl) (fun K hK => ?_); go_simp; refine hK _ ?_; clear hK K)
  refine tree_a (by rfl) (by rfl) (fun K hK => ?_)
  go_simp
  refine (compare_any a c _).mono ?_
  rintro e w' ⟨rfl, rfl⟩
  refine hK _ _ hS0 ?_
  clear hK K
  refine tree_a (by rfl) (by rfl) (fun K hK => ?_)
  go_simp
  refine (compare_any b d _).mono ?_
  rintro e w' ⟨rfl, rfl⟩
  refine hK _ _ hS0 ?_
  clear hK K
  obtain ⟨x, hx⟩ : ∃ x, x = cmpI a c := ⟨_, rfl⟩
  obtain ⟨y, hy⟩ : ∃ y, y = cmpI b d := ⟨_, rfl⟩
  have HROW : Hid (R = orI [x, y]) := HR.out.trans (by rw [hx, hy]; rfl)
  rw [← hx, ← hy]
  clear hx hy
  refine tree_a (by rfl) (by rfl) (fun K hK => ?_)
  go_simp
  have hS1 : S (w3.alloc (.cells #[.int .i64 x, .int .i64 y] 3)).drew := held_in HSS.out ⟨(k2.alloc _).drew, (k3.alloc _).drew⟩
  refine hK _ _ hS1 ?_
  clear hK K
  have kl := (Blk.new w3 rfl 3 #[.int .i64 x, .int .i64 y]).drew
  refine tree_a (by rfl) (by rfl) (fun K hK => ?_)
  go_simp
  refine (or_any [x, y] w3.heap.size 2 _ (by simp) (fun i z hz => ?_)).mono ?_
  · rw [kl.rd]
    match i, hz with
    | 0, hz => simpa using hz
    | 1, hz => simpa using hz
    | i + 2, hz => simp at hz
  rintro e w' ⟨rfl, rfl⟩
  refine hK _ _ hS1 ?_
  clear hK K
  repeat (refine tree_q (by rfl) (by rfl) (fun K hK => ?_); go_simp; refine hK _ ?_; clear hK K)
  refine tree_nil ?_
  clear q0 q1 hS0 hS1 HSS
  go_wp2_with fail
  go_ret
  exact ⟨by rw [HROW.out]; rfl, gw_trans hB3 (gw_drew (gw_alloc (gw_refl w3) _))⟩

end Go.Proofs.Ytdionganlmnlkaa

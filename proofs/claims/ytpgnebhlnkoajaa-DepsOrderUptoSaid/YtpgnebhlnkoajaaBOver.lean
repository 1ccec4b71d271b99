/-
  Bands: contract of the program's Over. Conditions: those of each theorem.
-/
import Derived.Test.YtpgnebhlnkoajaaBSortC
import Derived.Test.YtpgnebhlnkoajaaBAll
import Derived.Laws.IdiomRangeMap
import Derived.WalkMore
namespace Go.Proofs.Ytpgnebhlnkoajaa
open Go.ChangeShapes Go.WideShapes Go.ChangeAt Go.RowKit Go.Deep
attribute [local go_sem] Cls

theorem i64_quo {row : Int} (h : i64P row) : i64P (row.tdiv 64) := by
  have h1 : (row.tdiv 64).natAbs = row.natAbs / 64 := Int.natAbs_tdiv row 64
  have h2 : 0 ≤ row → 0 ≤ row.tdiv 64 := fun h => Int.tdiv_nonneg h (by decide)
  unfold i64P at *
  omega
/-- What Over answers. -/
def OverIs (w : World) (Cs : List Cl) (e : Ending) (w' : World) : Prop :=
  ∃ A, e = .returned (.slice A Cs.length Cs.length) ∧ Lies KC w' A Cs ∧ (A = none ∨ ∃ (g : Nat) (cur : Array Value), A = some ⟨g, 0, none⟩ ∧ w.heap.size ≤ g ∧ Blk w' g 33 cur ∧ Cs.length * 2 ≤ cur.size) ∧ Below w.heap.size w w'

set_option maxHeartbeats 6400000 in
set_option maxRecDepth 100000 in
theorem over_none (bb ma mb nb n : Nat) (row col : Int) (L : List Pr) (F : Int → Option Nat) (w : World) (h : BIs w bb ma mb nb n L F) (hr : i64P row) (hF : F (row.tdiv 64) = none) :
    Calls Try.prog 33 #[.pointer (some ⟨bb, 0, none⟩), .agg #[.int .i64 row, .int .i64 col]] w (OverIs w []) := by
  go_enter Try.func33, Try.ntmps33
  go_wp2_with fail
  go_step3
  go_wp2_with fail
  go_step3
  go_upto_region 2 with fail
  have hk : i64P (row.tdiv 64) := i64_quo hr
  have HK := Lib.hid hk
  have wq : IntKind.i64.wrap (row.tdiv 64) = row.tdiv 64 := IntWalk.i64_in _ (by unfold i64P at hk; omega)
  have HF := Lib.hid hF
  clear hk hF hr
  have hB3 := bel_alloc (bel_refl w) (.cells #[.int .i64 row, .int .i64 col] 33)
  have h3 := h.below hB3
  have k3 := Blk.new w rfl 33 #[.int .i64 row, .int .i64 col]
  generalize hwz : w.alloc (.cells #[.int .i64 row, .int .i64 col] 33) = w3 at hB3 h3 k3 ⊢
  clear hwz
  obtain ⟨S, hSS⟩ : ∃ S : World → Prop, S = fun w' => BIs w' bb ma mb nb n L F ∧ Blk w' w.heap.size 33 #[.int .i64 row, .int .i64 col] := ⟨_, rfl⟩
  have q0 := fun x => (held_of hSS x).1.top.rd
  have q1 := fun x => (held_of hSS x).2.rd
  have q2 : ∀ x : Held S, (Instr.lookup 74 (.map (some mb)) (.int .i64 (row.tdiv 64)) false).run Try.prog x.w = .ok (.map none) x.w := fun x => by
    rw [(held_of hSS x).1.bg.look HK.out, HF.out]
  have HSS := Lib.hid hSS
  have hS0 := held_in HSS.out ⟨h3.below (bel_drew (bel_refl w3)), k3.drew⟩
  haveI : Nonempty (Held S) := ⟨⟨_, hS0⟩⟩
  clear hSS
  refine wp_region_tree (S := S) 9 (.q 0 <| .q 1 <| .q 2 <| .q 3 <| .q 4 <| .q 5 <| .q 6 <| .q 7 <| .a 8 <| .done) [] (by kernel_rfl) (by kernel_rfl) hS0 ?_
  repeat (refine tree_q (by rfl) (by rfl) (fun K hK => ?_); go_simp; refine hK _ ?_; clear hK K)
  refine tree_a (by rfl) (by rfl) (fun K hK => ?_)
  have hrg := run_range_nilMap (P := Try.prog) w3.drew 73 79 66 Try.underlying73
  go_simp
  refine hK _ _ (held_in HSS.out ⟨(h3.below (bel_drew (bel_refl w3))).below (bel_alloc (bel_refl _) _), k3.drew.alloc _⟩) ?_
  clear hK K hrg
  refine tree_nil ?_
  have hnx : ∀ ty, (Instr.next (.pointer (some ⟨w3.heap.size, 0, none⟩)) false ty).run Try.prog (w3.alloc (.mapIter none 0 #[] 0)).drew = .ok (.tuple #[.bool false]) (w3.alloc (.mapIter none 0 #[] 0)).drew := fun ty => run_next_nilMap w3.drew ty 0 0 #[]
  have hB5 := bel_drew (bel_alloc hB3 (.mapIter none 0 #[] 0))
  generalize (w3.alloc (.mapIter none 0 #[] 0)).drew = w5 at hnx hB5 ⊢
  go_wp2_with fail
  refine wp_loop_rounds 1 ?_
  rw [rounds_succ]
  go_wp2_with fail
  refine (sort_cells (OL.nil w5 w.heap.size) (by simp) (by simp)).mono ?_
  rintro e w6 ⟨rfl, M, hO6, hlen, hsM, hM, hg6⟩
  obtain rfl : M = [] := List.length_eq_zero_iff.1 hlen
  have hB6 := bel_grown hB5 hg6 (fun z hz => by cases hz)
  go_wp2_with fail
  refine (clipc_any none 0 0 w6 (Nat.le_refl _)).mono ?_
  rintro e w7 ⟨rfl, rfl⟩
  go_wp2_with fail
  try rw [Exit.noGoto_ret]
  go_ret
  exact ⟨none, rfl, ol_lies hO6, .inl rfl, hB6⟩
end Go.Proofs.Ytpgnebhlnkoajaa

/-
  Bands: contracts of New and Add. Conditions: those of each theorem.
-/
import Derived.Test.YtpgnebhlnkoajaaBKeys
import Derived.Test.YtpgnebhlnkoajaaFork
namespace Go.Proofs.Ytpgnebhlnkoajaa
open Go.ChangeShapes Go.WideShapes Go.ChangeAt Go.RowKit Go.Deep
attribute [local go_sem] Cls

/-- What New answers. -/
def NewIs (w : World) (e : Ending) (w' : World) : Prop := ∃ bb ma mb, e = .returned (.pointer (some ⟨bb, 0, none⟩)) ∧ BIs w' bb ma mb 0 0 [] (fun _ => none) ∧ (w.heap.size ≤ bb ∧ w.heap.size ≤ ma ∧ w.heap.size ≤ mb) ∧ Below w.heap.size w w'
theorem new_any (w : World) : Calls Try.prog 23 #[] w (NewIs w) := by
  have hmk := fun w => run_makeMap (P := Try.prog) 73 w
  have hmk2 := fun w => run_makeMap (P := Try.prog) 74 w
  go_enter Try.func23, Try.ntmps23
  go_wp2_with fail
  go_ret
  have h1 := ((MSet.made Try.prog 79 pairV rngP w).below (bel_alloc (bel_refl _) (.map #[] 0))).below (bel_alloc (bel_refl _) (.cells #[.map (some w.heap.size), .map (some (w.heap.size + 1))] 76))
  have h2 := (World.ownsMap_made (H := Unit) (w.alloc (.map #[] 0)) Try.prog 3 refE).alloc (.cells #[.map (some w.heap.size), .map (some (w.heap.size + 1))] 76)
  rw [show (w.alloc (.map #[] 0)).heap.size = w.heap.size + 1 by simp] at h2
  refine ⟨w.heap.size + 1 + 1, w.heap.size, w.heap.size + 1, rfl, ⟨Blk.new ((w.alloc (.map #[] 0)).alloc (.map #[] 0)) (by simp) 76 _, h1, ⟨⟨_, h2, fun k => rfl⟩, fun k g h => (by cases h), fun k _ => rfl, fun k k' g h => (by cases h), fun k g h => (by cases h)⟩, by omega, fun k g h => (by cases h), fun p hp => (by simp at hp)⟩, by omega, bel_alloc (bel_alloc (bel_alloc (bel_refl w) _) _) _⟩

section
variable {w w' : World} {bb ma mb nb n : Nat} {L : List Pr} {F : Int → Option Nat}
/-- The blocks that it owns. -/
def ownB (bb ma mb : Nat) (F : Int → Option Nat) (z : Nat) : Prop := z = bb ∨ z = ma ∨ z = mb ∨ ∃ k, F k = some z
theorem BIs.kept {row : Option Nat} (h : BIs w bb ma mb nb n L F) (hg : w.grownBy w' row) (hn : ∀ z, ownB bb ma mb F z → row ≠ some z) : BIs w' bb ma mb nb n L F :=
  ⟨h.top.grownX hg (fun e => hn bb (.inl rfl) e.symm), h.all.kept hg (fun e => hn ma (.inr (.inl rfl)) e.symm), h.bg.kept hg (fun e => hn mb (.inr (.inr (.inl rfl))) e.symm) (fun k g hk e => hn g (.inr (.inr (.inr ⟨k, hk⟩))) e.symm), h.ne, h.nel, h.may⟩
theorem BIs.below (h : BIs w bb ma mb nb n L F) (hb : Below w.heap.size w w') : BIs w' bb ma mb nb n L F := h.kept (row := none) (grown_of_below hb none) (by simp)
end

set_option maxHeartbeats 3200000 in
set_option maxRecDepth 100000 in
theorem add_no (bb ma mb nb n : Nat) (L : List Pr) (F : Int → Option Nat) (t l b r row col : Int) (w : World) (h : BIs w bb ma mb nb n L F) (hr : rngP ⟨row, col, t, l, b, r⟩) (hno : ⟨row, col, t, l, b, r⟩ ∈ L ∨ ¬ okP ⟨row, col, t, l, b, r⟩) :
    Calls Try.prog 29 #[.pointer (some ⟨bb, 0, none⟩), .agg #[.int .i64 t, .int .i64 l, .int .i64 b, .int .i64 r], .agg #[.int .i64 row, .int .i64 col]] w fun e w' => e = .returned (.bool false) ∧ Below w.heap.size w w' := by
  obtain ⟨kl, hkl⟩ := key_pair ⟨row, col, t, l, b, r⟩ hr
  go_enter Try.func29, Try.ntmps29
  go_wp2_with fail
  have hB3 := bel_alloc (bel_alloc (bel_alloc (bel_refl w) (.cells #[.int .i64 t, .int .i64 l, .int .i64 b, .int .i64 r] 47)) (.cells #[.int .i64 row, .int .i64 col] 33)) (.cells #[.int .i64 t, .int .i64 l, .int .i64 b, .int .i64 r, .int .i64 row, .int .i64 col] 79)
  have h3 := h.below hB3
  have k4 := ((Blk.new w rfl 47 #[.int .i64 t, .int .i64 l, .int .i64 b, .int .i64 r]).alloc (.cells #[.int .i64 row, .int .i64 col] 33)).alloc (.cells #[.int .i64 t, .int .i64 l, .int .i64 b, .int .i64 r, .int .i64 row, .int .i64 col] 79)
  have k5 := (Blk.new (w.alloc (.cells #[.int .i64 t, .int .i64 l, .int .i64 b, .int .i64 r] 47)) (g := w.heap.size + 1) (by simp) 33 #[.int .i64 row, .int .i64 col]).alloc (.cells #[.int .i64 t, .int .i64 l, .int .i64 b, .int .i64 r, .int .i64 row, .int .i64 col] 79)
  have k7 := Blk.new ((w.alloc (.cells #[.int .i64 t, .int .i64 l, .int .i64 b, .int .i64 r] 47)).alloc (.cells #[.int .i64 row, .int .i64 col] 33)) (g := w.heap.size + 1 + 1) (by simp) 79 #[.int .i64 t, .int .i64 l, .int .i64 b, .int .i64 r, .int .i64 row, .int .i64 col]
  generalize hwz : ((w.alloc (.cells #[.int .i64 t, .int .i64 l, .int .i64 b, .int .i64 r] 47)).alloc (.cells #[.int .i64 row, .int .i64 col] 33)).alloc (.cells #[.int .i64 t, .int .i64 l, .int .i64 b, .int .i64 r, .int .i64 row, .int .i64 col] 79) = w3 at hB3 h3 k4 k5 k7 ⊢
  clear hwz
  obtain ⟨q, hq⟩ : ∃ q, q = decide (⟨row, col, t, l, b, r⟩ ∈ L) := ⟨_, rfl⟩
  obtain ⟨S, hSS⟩ : ∃ S : World → Prop, S = fun w' => BIs w' bb ma mb nb n L F ∧ Blk w' (w.heap.size + 1 + 1) 79 #[.int .i64 t, .int .i64 l, .int .i64 b, .int .i64 r, .int .i64 row, .int .i64 col] := ⟨_, rfl⟩
  have q0 := fun x => (held_of hSS x).1.top.rd
  have q1 := fun x => (held_of hSS x).2.rd
  have q2 : ∀ x : Held S, (Instr.lookup 73 (.map (some ma)) (.agg #[.int .i64 t, .int .i64 l, .int .i64 b, .int .i64 r, .int .i64 row, .int .i64 col]) true).run Try.prog x.w = .ok (.tuple #[.agg #[], .bool q]) x.w := fun x => by
    rw [hq]
    exact (held_of hSS x).1.all.look_run law_pair Try.underlying73 zero_unit ⟨row, col, t, l, b, r⟩ hkl
  have HSS := Lib.hid hSS
  have HQ := Lib.hid hq
  clear hq
  have hS0 := held_in HSS.out ⟨h3.below (bel_drew (bel_refl w3)), k7.drew⟩
  haveI : Nonempty (Held S) := ⟨⟨_, hS0⟩⟩
  clear hSS
  refine wp_region_tree (S := S) 12 (.q 0 <| .q 1 <| .q 2 <| .q 3 <| .q 4 <| .q 5 <| .q 6 <| .q 7 <| .q 8 <| .a 9 <| .a 10 <| .q 11 <| .done) [] (by kernel_rfl) (by kernel_rfl) hS0 ?_
  repeat (refine tree_q (by rfl) (by rfl) (fun K hK => ?_); go_simp; refine hK _ ?_; clear hK K)
  refine tree_a (by rfl) (by rfl) (fun K hK => ?_)
  go_simp
  refine hK _ _ (held_in HSS.out ⟨h3.below (bel_drew (bel_alloc (bel_refl w3) (.cells #[] 66))), (k7.alloc (.cells #[] 66)).drew⟩) ?_
  clear hK K
  refine tree_a (by rfl) (by rfl) (fun K hK => ?_)
  go_simp
  refine hK _ _ (held_in HSS.out ⟨h3.below (bel_drew (bel_alloc (bel_refl w3) (.cells #[] 66))), (k7.alloc (.cells #[] 66)).drew⟩) ?_
  clear hK K
  repeat (refine tree_q (by rfl) (by rfl) (fun K hK => ?_); go_simp; refine hK _ ?_; clear hK K)
  refine tree_nil ?_
  have hb4 := bel_drew (bel_alloc (bel_refl w3) (.cells #[] 66))
  have rd4 := (k4.below hb4).rd
  have k5' := k5.below hb4
  have rd5 := k5'.rd
  have hB4 := bel_call hB3 hb4
  clear q0 q1 q2 hS0 HSS hb4 h3 k7
  cases q with
  | true =>
    go_wp2_with fail
    go_ret
    exact ⟨rfl, hB4⟩
  | false =>
    have hno2 : ¬ okP ⟨row, col, t, l, b, r⟩ := hno.resolve_left (of_decide_eq_false HQ.out.symm)
    have hno3 : mayR t l b r = false ∨ mayB row col = false := by
      cases e1 : mayR t l b r with
      | false => exact .inl rfl
      | true =>
        cases e2 : mayB row col with
        | false => exact .inr rfl
        | true => exact absurd ⟨e1, e2⟩ hno2
    clear hno hno2
    go_wp2_with fail
    refine (mayrect_any t l b r _).mono ?_
    rintro e w5 ⟨rfl, hb5⟩
    have k55 := k5'.below hb5
    have rd55 := k55.rd
    have hB5 := bel_call hB4 hb5
    clear hb5
    cases e1 : mayR t l b r with
    | false =>
      go_wp2_with fail
      go_ret
      exact ⟨rfl, hB5⟩
    | true =>
      have e2 : mayB row col = false := hno3.resolve_left (by rw [e1]; decide)
      go_wp2_with fail
      refine (may_any row col _).mono ?_
      rintro e w6 ⟨rfl, hb6⟩
      have hB6 := bel_call hB5 hb6
      clear hb6
      rw [e2]
      go_wp2_with fail
      go_ret
      exact ⟨rfl, hB6⟩
end Go.Proofs.Ytpgnebhlnkoajaa

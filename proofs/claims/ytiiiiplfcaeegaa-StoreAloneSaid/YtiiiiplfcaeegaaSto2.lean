/-
  Contracts of store.place, New, Count, Get and of addr.May, orielref03's within, May, In, Before. Conditions: those of each theorem.
-/
import Derived.Test.YtiiiiplfcaeegaaSto1
import Derived.Test.YtiiiiplfcaeegaaAddr
import Derived.BigRegion
import Derived.Deep.LoopGhost
import Derived.Deep.DeepCutAuto
import Derived.Deep.QuietTactic
import Derived.BigQuiet
namespace Go.Proofs.Ytiiiiplfcaeegaa
open Go.ChangeShapes Go.WideShapes Go.ChangeAt Go.RowKit Go.Deep

theorem place_any (n : Int) (i k : Nat) (w : World) (h : n = i * 16 + k + 1) (hk : k < 16) (hi : i < 1000000) :
    Calls Try.prog 22 #[.int .i64 n] w fun e w' => e = .returned (.tuple #[.int .i64 i, .int .i64 k]) ∧ w = w' := by
  have h1 : (n - 1) / 16 = i := by omega
  have h2 : (n - 1) % 16 = k := by omega
  have H1 : Hid ((n - 1) / 16 = i) := h1
  have H2 : Hid ((n - 1) % 16 = k) := h2
  have b1 : 1 ≤ n := by omega
  have b2 : n ≤ 17000000 := by omega
  clear h h1 h2
  go_enter Try.func22, Try.ntmps22
  go_wp2_with fail
  go_ret2
  refine ⟨?_, rfl⟩
  show Ending.returned (.tuple #[.int .i64 ((n - 1) / 16), .int .i64 ((n - 1) % 16)]) = _
  rw [H1.out, H2.out]

theorem zero_store (w : World) : (zeroValue 72).run Try.prog w = .ok (.agg ((List.range 258).map (sf (fun _ => none) 0)).toArray) w := by kernel_rfl
theorem zero_chunk (w : World) : (zeroValue 78).run Try.prog w = .ok (.agg ((List.range 32).map (cf (fun _ => none) (fun _ _ => none) 0)).toArray) w := by kernel_rfl

theorem snew_any (w : World) :
    Calls Try.prog 8 #[] w fun e w' => ∃ b, w.heap.size ≤ b ∧ e = .returned (.pointer (some ⟨b, 0, none⟩)) ∧ SIs w' b (fun _ => none) (fun _ => none) (fun _ _ => none) 0 ∧ Below w.heap.size w w' := by
  obtain ⟨Z, hZ⟩ : ∃ Z, Z = ((List.range 258).map (sf (fun _ => none) 0)).toArray := ⟨_, rfl⟩
  have hz := zero_store
  rw [← hZ] at hz
  have HR : Hid (∀ W : World, (W.alloc (.cells Z 72)).rowIs W.heap.size 72 258 (sf (fun _ => none) 0)) := fun W => by
    have := World.rowIs_alloc W Z 72 (sf (fun _ => none) 0) (by intro i hi; rw [hZ] at hi ⊢; simp at hi; simp [hi])
    rwa [show Z.size = 258 by rw [hZ]; simp] at this
  have hne : ¬ Z = #[] := by intro e; have : Z.size = 258 := by { rw [hZ]; simp }; rw [e] at this; simp at this
  clear hZ
  go_enter Try.func8, Try.ntmps8
  go_wp2_with fail
  go_ret
  refine ⟨w.heap.size, Nat.le_refl _, rfl, ⟨HR.out w, ?_, ?_, ?_, ?_, ?_, ?_, ?_⟩, bel_alloc (bel_refl w) _⟩
  · intro i _ b hb; cases hb
  · intro r _ b hb; cases hb
  · intro i j b _ _ hb; cases hb
  · intro r q b _ _ hb; cases hb
  · intro r _ _; rfl
  · intro r _ _ c _; rfl
  · rw [total_zero]; rfl

section
variable {sb : Nat} {ch rb : Nat → Option Nat} {g : Grid} {cnt : Int}

theorem scount_any (w : World) (h : SIs w sb ch rb g cnt) :
    Calls Try.prog 16 #[.pointer (some ⟨sb, 0, none⟩)] w fun e w' => e = .returned (.int .i64 cnt) ∧ w = w' := by
  have e1 : w.cell? ⟨sb, 257, none⟩ = some (.int .i64 cnt) := h.top.cell (by omega)
  go_enter Try.func16, Try.ntmps16
  go_wp2_with fail
  go_ret
  exact ⟨rfl, rfl⟩

/-- row: what the row's slice is. -/
theorem srow_any (n : Int) (i k : Nat) (w : World) (h : SIs w sb ch rb g cnt) (hn : n = i * 16 + k + 1) (hk : k < 16) (hi : i < 256) :
    Calls Try.prog 24 #[.pointer (some ⟨sb, 0, none⟩), .int .i64 n] w fun e w' => e = .returned (rowV (rb (i * 16 + k))) ∧ w = w' := by
  have HN : Hid (n = i * 16 + k + 1) := hn
  clear hn
  have e1 : w.cell? ⟨sb, i, none⟩ = some (ptrV (ch i)) := (h.top.cell (by omega)).trans (by unfold sf; rw [if_pos (by omega)])
  cases hch : ch i with
  | none =>
    have hr := h.up (i * 16 + k) (by omega) (by rw [show (i * 16 + k) / 16 = i by omega]; exact hch)
    rw [hch] at e1
    rw [hr]
    unfold ptrV at e1
    unfold rowV
    clear hch hr
    go_enter Try.func24, Try.ntmps24
    go_wp2_with fail
    refine (place_any n i k _ HN.out hk (by omega)).mono ?_
    rintro e w' ⟨rfl, rfl⟩
    go_wp2_with fail
    go_ret
    exact ⟨rfl, rfl⟩
  | some b =>
    have e2 : w.cell? ⟨b, k, none⟩ = some (rowV (rb (i * 16 + k))) := ((h.chk i (by omega) b hch).cell (by omega)).trans (by unfold cf; rw [if_pos hk])
    rw [hch] at e1
    unfold ptrV at e1
    clear hch
    generalize rowV (rb (i * 16 + k)) = v at e2
    go_enter Try.func24, Try.ntmps24
    go_wp2_with fail
    refine (place_any n i k _ HN.out hk (by omega)).mono ?_
    rintro e w' ⟨rfl, rfl⟩
    go_wp2_with fail
    go_ret
    exact ⟨rfl, rfl⟩

theorem sget_no (r c : Int) (w : World) (hm : mayB r c = false) :
    Calls Try.prog 14 #[.pointer (some ⟨sb, 0, none⟩), .agg #[.int .i64 r, .int .i64 c]] w fun e w' => e = .returned (.pointer none) ∧ Below w.heap.size w w' := by
  go_enter Try.func14, Try.ntmps14
  go_wp2_with fail
  refine (may_any _ _ _).mono ?_
  rintro e w1 ⟨rfl, hb1⟩
  go_wp2_with fail
  go_ret
  exact ⟨rfl, bel_call (bel_alloc (bel_refl w) _) hb1⟩

theorem sget_any (r c : Int) (q d : Nat) (w : World) (h : SIs w sb ch rb g cnt) (hr : r = q + 1) (hc : c = d + 1) (hq : q < 4096) (hd : d < 256) :
    Calls Try.prog 14 #[.pointer (some ⟨sb, 0, none⟩), .agg #[.int .i64 r, .int .i64 c]] w fun e w' => e = .returned (.pointer (g q d)) ∧ Below w.heap.size w w' := by
  subst hr hc
  obtain ⟨i, k, hk, rfl⟩ : ∃ i k, k < 16 ∧ q = i * 16 + k := ⟨q / 16, q % 16, by omega, by omega⟩
  have hmay : mayB ((i : Int) * 16 + (k : Int) + 1) ((d : Int) + 1) = true := by simp [mayB]; omega
  obtain ⟨v, hv⟩ : ∃ v, v = g (i * 16 + k) d := ⟨_, rfl⟩
  rw [← hv]
  have HV : Hid (v = g (i * 16 + k) d) := hv
  clear hv
  go_enter Try.func14, Try.ntmps14
  go_wp2_with fail
  refine (may_any _ _ _).mono ?_
  rintro e w1 ⟨rfl, hb1⟩
  have k1 := (Blk.new w rfl _ _).below hb1
  have h1 := (h.alloc _).below hb1
  have hw := bel_call (bel_alloc (bel_refl w) _) hb1
  clear hb1 h
  have rd1 := k1.rd
  go_wp2_with fail
  refine (srow_any _ i k _ h1 ?_ hk (by omega)).mono ?_
  · omega
  rintro e w2 ⟨rfl, rfl⟩
  cases hrb : rb (i * 16 + k) with
  | none =>
    obtain rfl : v = none := by rw [HV.out]; exact h1.emp _ hq hrb d hd
    unfold rowV
    go_wp2_with fail
    go_ret
    exact ⟨rfl, hw⟩
  | some b =>
    have e2 : w1.cell? ⟨b, d, none⟩ = some (.pointer v) := ((h1.row _ hq b hrb).cell hd).trans (by rw [HV.out]; rfl)
    unfold rowV
    go_wp2_with fail
    go_ret
    exact ⟨rfl, hw⟩
end
end Go.Proofs.Ytiiiiplfcaeegaa

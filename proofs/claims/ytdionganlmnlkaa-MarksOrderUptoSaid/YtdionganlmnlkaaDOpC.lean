/-
  Lists of cells that come in: how they open. Conditions: those of each theorem.
-/
import Derived.Test.YtdionganlmnlkaaDOpen
namespace Go.Proofs.Ytdionganlmnlkaa
open Go.ChangeShapes Go.WideShapes Go.ChangeAt Go.RowKit Go.Joins Go.Deep

instance : Inhabited Cl := ⟨⟨0, 0⟩⟩
def CellsAt (w : World) (A : Option Addr) (C : List Cl) : Prop := Lies KC w A C ∧ ∀ c, c ∈ C → rngC c
section
variable {H : Type} {enc : TypeId × Value → H} {W : World} {r : Reach} {b0 base : Nat} {sp : Nat → Bool} {hd : Bool} {v : Value} {d : DataW H} {p : List MemPlace}
set_option maxRecDepth 100000 in
theorem open_cellsC (hv : Value.okWide Try.prog W r b0 41 v) (h : DataW.Trod enc Try.prog W base sp hd 41 v d p) :
    ∃ A cap C, v = .slice A C.length cap ∧ CellsAt W A C ∧ C.length + 1 ≤ Rows.uptoBulk d := by
  obtain ⟨A, len, cap, rfl⟩ := okWide_slice Try.underlying41 hv
  obtain ⟨fuel, hf⟩ := h
  rcases open_slice Try.underlying41 hf with ⟨h0, hx⟩ | ⟨a, len', cap', m, n, D, Pl, hcs, _, hl, hc, hm, hx, hi⟩
  · simp only [Value.cells, List.cons.injEq, Value.slice.injEq, and_true] at h0
    obtain ⟨rfl, rfl, rfl⟩ := h0
    exact ⟨none, 0, [], rfl, ⟨Lies.nil _ _, fun c hc => by simp at hc⟩, bulk_one d⟩
  · simp only [Value.cells, List.cons.injEq, Value.slice.injEq, and_true] at hcs
    obtain ⟨rfl, rfl, rfl⟩ := hcs
    have hlm : len ≤ m := by rw [hm]; split <;> omega
    have key : ∀ i, i < len → ∃ x : Cl, (∀ j u, (KC.enc x)[j]? = some u → W.cell? ((a.add (i * 2)).add j) = some u) ∧ rngC x := by
      intro i hil
      obtain ⟨cs', hcs', ht'⟩ := hi i (by omega)
      rw [show Try.prog.cellsOf 32 = 2 by kernel_rfl] at hcs'
      obtain ⟨_, _, hat⟩ := World.cells?_some hcs'
      obtain ⟨z0, e0, r0⟩ := leaf_int (n := 5) ht' (o := 0) (t' := 3) (by kernel_rfl) Try.underlying3
      obtain ⟨z1, e1, r1⟩ := leaf_int (n := 5) ht' (o := 1) (t' := 3) (by kernel_rfl) Try.underlying3
      refine ⟨⟨z0, z1⟩, fun j u hu => ?_, ⟨i64_of_wf r0, i64_of_wf r1⟩⟩
      have hj : j < 2 := (List.getElem?_eq_some_iff.1 hu).1
      rw [hat j hj]
      rcases (show j = 0 ∨ j = 1 by omega) with rfl | rfl
      · exact e0.trans hu
      · exact e1.trans hu
    obtain ⟨f, hf'⟩ := choose_lt (α := Cl) (p := fun i x => (∀ j u, (KC.enc x)[j]? = some u → W.cell? ((a.add (i * 2)).add j) = some u) ∧ rngC x) key
    refine ⟨some a, cap, (List.range len).map f, by simp, ⟨fun i x hx => ?_, fun c hc => ?_⟩, ?_⟩
    · have hil : i < len := by
        have := (List.getElem?_eq_some_iff.1 hx).1
        simpa using this
      have hxe : x = f i := by
        simp [hil] at hx
        exact hx.symm
      subst hxe
      have h0 := (hf' 0 (by omega)).1 0 _ rfl
      rw [Nat.zero_mul] at h0
      have hlt0 : a = ⟨a.block, a.off, none⟩ ∧ a.block < W.heap.size := addr_of_cell (by simpa [Addr.add] using h0)
      refine ⟨a.block, a.off, by rw [← hlt0.1], hlt0.2, fun j u hu => ?_⟩
      have hc := (hf' i hil).1 j u hu
      rw [hlt0.1, addr_add, addr_add] at hc
      exact hc
    · obtain ⟨i, hi', rfl⟩ := List.mem_map.1 hc
      exact (hf' i (by simpa using hi')).2
    · obtain ⟨rfl, _⟩ := Prod.mk.inj hx
      have := bulk_len ((List.range len).map D)
      simp only [Rows.uptoBulk]
      rw [List.length_map, List.length_range] at this ⊢
      omega
end
end Go.Proofs.Ytdionganlmnlkaa

/-
  How a formula opens. Conditions: those of each theorem.
-/
import Derived.Test.YtifmfkofadhieaaRStk
import Derived.Lib.SmallJoins
namespace Go.Proofs.Ytifmfkofadhieaa
open Go.ChangeShapes Go.WideShapes Go.ChangeAt Go.RowKit Go.Joins Go.Deep

section
variable {H : Type} {enc : TypeId × Value → H} {P : Program} {w : World} {base : Nat} {spare : Nat → Bool} {held : Bool}
/-- A string leaf. -/
theorem leaf_str {n : Nat} {t : TypeId} {fuel : Nat} {cs : List Value} {x : DataW H × List MemPlace} (h : DataW.trod enc P w base spare held fuel t cs = some x) {o : Nat} {t' : TypeId}
    (hm : (leaves P n t).contains (o, t') = true) (hk : P.underlying t' = some .string) : ∃ s : ByteArray, cs[o]? = some (.string s) ∧ s.size ≤ maxLen := by
  obtain ⟨v, fuel', y, hv, ht⟩ := trod_leaves n t fuel cs x h (o, t') (by simpa using hm)
  obtain ⟨s, hs, _, hw⟩ := DataW.trod_string hk ht
  simp only [List.cons.injEq, and_true] at hs
  exact ⟨s, by rw [hv, hs], hw⟩
end

instance : Inhabited Nd := ⟨⟨0, 0, 0, ⟨#[]⟩, false, 0, 0, 0, 0, 0, 0, 0, 0, ⟨#[]⟩, 0⟩⟩
/-- The numbers are 64-bit integers. -/
def rngN (x : Nd) : Prop := -9223372036854775808 ≤ x.num ∧ (-9223372036854775808 ≤ x.row ∧ x.row ≤ 9223372036854775807) ∧ (-9223372036854775808 ≤ x.op ∧ x.op ≤ 9223372036854775807) ∧ (-9223372036854775808 ≤ x.args ∧ x.args ≤ 9223372036854775807)

section
variable {H : Type} {enc : TypeId × Value → H} {W : World} {r : Reach} {b0 base : Nat} {sp : Nat → Bool} {hd : Bool} {v : Value} {d : DataW H} {p : List MemPlace}
theorem open_nodes {fuel len cap : Nat} {A : Option Addr} {x : DataW H × List MemPlace} (h : DataW.trod enc Try.prog W base sp hd fuel 22 [.slice A len cap] = some x) :
    len ≤ cap ∧ cap ≤ maxLen ∧ ∃ Ns : List Nd, Ns.length = len ∧ Lies KN W A Ns ∧ ∀ n, n ∈ Ns → rngN n := by
  rcases open_slice Try.underlying22 h with ⟨h0, _⟩ | ⟨a, len', cap', m, n, D, Pl, hcs, _, hl, hc, hm, _, hi⟩
  · simp only [List.cons.injEq, Value.slice.injEq, and_true] at h0
    obtain ⟨rfl, rfl, rfl⟩ := h0
    exact ⟨Nat.le_refl _, by simp [maxLen], [], rfl, Lies.nil _ _, fun n hn => by simp at hn⟩
  · simp only [List.cons.injEq, Value.slice.injEq, and_true] at hcs
    obtain ⟨rfl, rfl, rfl⟩ := hcs
    refine ⟨hl, hc, ?_⟩
    have hlm : len ≤ m := by rw [hm]; split <;> omega
    have key : ∀ i, i < len → ∃ x : Nd, (∀ j u, (KN.enc x)[j]? = some u → W.cell? ((a.add (i * 15)).add j) = some u) ∧ rngN x := by
      intro i hil
      obtain ⟨cs', hcs', ht'⟩ := hi i (by omega)
      rw [show Try.prog.cellsOf 48 = 15 by kernel_rfl] at hcs'
      obtain ⟨_, _, hat⟩ := World.cells?_some hcs'
      obtain ⟨z0, e0, _⟩ := leaf_int (n := 5) ht' (o := 0) (t' := 3) (by kernel_rfl) Try.underlying3
      obtain ⟨z1, e1, _⟩ := leaf_int (n := 5) ht' (o := 1) (t' := 41) (by kernel_rfl) Try.underlying41
      obtain ⟨z2, e2, r2⟩ := leaf_int (n := 5) ht' (o := 2) (t' := 2) (by kernel_rfl) Try.underlying2
      obtain ⟨z3, e3, _⟩ := leaf_str (n := 5) ht' (o := 3) (t' := 9) (by kernel_rfl) Try.underlying9
      obtain ⟨z4, e4⟩ := leaf_bool (n := 5) ht' (o := 4) (t' := 4) (by kernel_rfl) Try.underlying4
      obtain ⟨z5, e5, _⟩ := leaf_int (n := 5) ht' (o := 5) (t' := 42) (by kernel_rfl) Try.underlying42
      obtain ⟨z6, e6, r6⟩ := leaf_int (n := 5) ht' (o := 6) (t' := 3) (by kernel_rfl) Try.underlying3
      obtain ⟨z7, e7, _⟩ := leaf_int (n := 5) ht' (o := 7) (t' := 3) (by kernel_rfl) Try.underlying3
      obtain ⟨z8, e8, _⟩ := leaf_int (n := 5) ht' (o := 8) (t' := 3) (by kernel_rfl) Try.underlying3
      obtain ⟨z9, e9, _⟩ := leaf_int (n := 5) ht' (o := 9) (t' := 3) (by kernel_rfl) Try.underlying3
      obtain ⟨z10, e10, _⟩ := leaf_int (n := 5) ht' (o := 10) (t' := 3) (by kernel_rfl) Try.underlying3
      obtain ⟨z11, e11, _⟩ := leaf_int (n := 5) ht' (o := 11) (t' := 3) (by kernel_rfl) Try.underlying3
      obtain ⟨z12, e12, r12⟩ := leaf_int (n := 5) ht' (o := 12) (t' := 3) (by kernel_rfl) Try.underlying3
      obtain ⟨z13, e13, _⟩ := leaf_str (n := 5) ht' (o := 13) (t' := 9) (by kernel_rfl) Try.underlying9
      obtain ⟨z14, e14, r14⟩ := leaf_int (n := 5) ht' (o := 14) (t' := 3) (by kernel_rfl) Try.underlying3
      refine ⟨⟨z0, z1, z2, z3, z4, z5, z6, z7, z8, z9, z10, z11, z12, z13, z14⟩, fun j u hu => ?_, (i64_of_wf r2).1, i64_of_wf r6, i64_of_wf r12, i64_of_wf r14⟩
      have hj : j < 15 := (List.getElem?_eq_some_iff.1 hu).1
      rw [hat j hj]
      rcases (show j = 0 ∨ j = 1 ∨ j = 2 ∨ j = 3 ∨ j = 4 ∨ j = 5 ∨ j = 6 ∨ j = 7 ∨ j = 8 ∨ j = 9 ∨ j = 10 ∨ j = 11 ∨ j = 12 ∨ j = 13 ∨ j = 14 by omega) with rfl | rfl | rfl | rfl | rfl | rfl | rfl | rfl | rfl | rfl | rfl | rfl | rfl | rfl | rfl
      · exact e0.trans hu
      · exact e1.trans hu
      · exact e2.trans hu
      · exact e3.trans hu
      · exact e4.trans hu
      · exact e5.trans hu
      · exact e6.trans hu
      · exact e7.trans hu
      · exact e8.trans hu
      · exact e9.trans hu
      · exact e10.trans hu
      · exact e11.trans hu
      · exact e12.trans hu
      · exact e13.trans hu
      · exact e14.trans hu
    obtain ⟨f, hf⟩ := choose_lt (α := Nd) (p := fun i x => (∀ j u, (KN.enc x)[j]? = some u → W.cell? ((a.add (i * 15)).add j) = some u) ∧ rngN x) key
    refine ⟨(List.range len).map f, by simp, fun i x hx => ?_, fun n hn => ?_⟩
    · have hil : i < len := by
        have := (List.getElem?_eq_some_iff.1 hx).1
        simpa using this
      have hxe : x = f i := by
        simp [hil] at hx
        exact hx.symm
      subst hxe
      have h0 := (hf 0 (by omega)).1 0 _ rfl
      rw [Nat.zero_mul] at h0
      have hlt0 : a = ⟨a.block, a.off, none⟩ ∧ a.block < W.heap.size := addr_of_cell (by simpa [Addr.add] using h0)
      have hlt : a.block < W.heap.size ∧ a = ⟨a.block, a.off, none⟩ := ⟨hlt0.2, hlt0.1⟩
      refine ⟨a.block, a.off, by rw [← hlt.2], hlt.1, fun j u hu => ?_⟩
      have hc := (hf i hil).1 j u hu
      rw [hlt.2, addr_add, addr_add] at hc
      exact hc
    · obtain ⟨i, hi, rfl⟩ := List.mem_map.1 hn
      exact (hf i (by simpa using hi)).2
theorem open_formula (hv : Value.okWide Try.prog W r b0 24 v) (h : DataW.Trod enc Try.prog W base sp hd 24 v d p) :
    ∃ A Ns cap, v = .agg #[.slice A (Ns : List Nd).length cap] ∧ Ns.length ≤ cap ∧ cap ≤ 9223372036854775807 ∧ Lies KN W A Ns ∧ ∀ n, n ∈ Ns → rngN n := by
  obtain ⟨cs, rfl, hsz⟩ := okWide_struct Try.underlying24 hv
  obtain ⟨fuel, hf⟩ := h
  obtain ⟨u, fuel', y, hu, ht⟩ := trod_leaves 3 24 fuel _ _ hf (0, 22) (by
    have : (leaves Try.prog 3 24).contains (0, 22) = true := by kernel_rfl
    simpa using this)
  have hs1 : cs.size = 1 := hsz.trans (by kernel_rfl)
  obtain ⟨A, len, cap, rfl⟩ : ∃ A len cap, u = .slice A len cap := by
    rcases open_slice Try.underlying22 ht with ⟨h0, _⟩ | ⟨a, len', cap', m, n, D, Pl, hcs, _⟩
    · simp only [List.cons.injEq, and_true] at h0
      exact ⟨_, _, _, h0⟩
    · simp only [List.cons.injEq, and_true] at hcs
      exact ⟨_, _, _, hcs⟩
  obtain ⟨h1, h2, Ns, hlen, hL, hr⟩ := open_nodes ht
  subst hlen
  refine ⟨A, Ns, cap, ?_, h1, by unfold maxLen at h2; omega, hL, hr⟩
  have hc : cs.toList = [.slice A Ns.length cap] := by
    have hl : cs.toList.length = 1 := by simpa using hs1
    obtain ⟨z, hz⟩ : ∃ z, cs.toList = [z] := List.length_eq_one_iff.1 hl
    rw [hz]
    have hu' : cs.toList[0]? = some (.slice A Ns.length cap) := hu
    rw [hz] at hu'
    simpa using hu'
  rw [show cs = #[.slice A Ns.length cap] from Array.toList_inj.1 (by simpa using hc)]
end
end Go.Proofs.Ytifmfkofadhieaa

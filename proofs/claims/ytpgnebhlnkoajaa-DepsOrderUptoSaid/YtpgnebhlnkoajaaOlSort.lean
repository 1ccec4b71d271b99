/-
  Lists that a walk builds by appends, sorted in place by the shelf's sort of structs. Over any program. Conditions: those of each theorem.
-/
import Derived.Test.YtpgnebhlnkoajaaOlMake
import Derived.Shelf.SlSortCmp.NoneTotal
namespace Go.Proofs.Ytpgnebhlnkoajaa
open Go.ChangeShapes Go.WideShapes Go.ChangeAt Go.RowKit Go.Deep Go.Sort

section
variable {α : Type} [Inhabited α] {K : Knd α} {w : World} {B g c n : Nat} {L M : List α} {os : Array Obj}
theorem flat_list (L : List α) : (flatK K.enc K.size L.toArray).toList = cellsK K L := by
  apply List.ext_getElem?
  intro j
  rw [cellsK_get, Array.getElem?_toList]
  have hp := K.pos
  by_cases hj : j < L.length * K.size
  · have hq : j / K.size < L.length := (Nat.div_lt_iff_lt_mul hp).2 hj
    have hr : j % K.size < (K.enc L[j / K.size]).length := by rw [K.len]; exact Nat.mod_lt _ hp
    rw [List.getElem?_eq_getElem hq]
    show _ = (K.enc L[j / K.size])[j % K.size]?
    rw [List.getElem?_eq_getElem hr]
    unfold flatK
    rw [Array.getElem?_map, Array.getElem?_range]
    simp [hj, hq, hr]
  · rw [Array.getElem?_eq_none (by simp; omega), List.getElem?_eq_none (by
      have : ¬ j / K.size < L.length := fun h => hj ((Nat.div_lt_iff_lt_mul hp).1 h)
      omega)]
    rfl
theorem ol_holds (h : OL K w B (.slice (some ⟨g, 0, none⟩) L.length c) L) : HoldsK K.enc K.size w g 0 L.toArray := by
  intro j hj
  have hc := World.ownsRow.cells (g := g) h rfl j
  have hf : (flatK K.enc K.size L.toArray)[j]? = some (flatK K.enc K.size L.toArray)[j]! := by rw [getElem!_pos _ j hj]; exact Array.getElem?_eq_getElem hj
  rw [← Array.getElem?_toList, flat_list] at hf
  have h1 := hc _ hf
  rw [addr_add] at h1
  obtain ⟨cur, e⟩ := h.type g rfl
  exact ⟨h1, by simp [World.frozen?, e]⟩
theorem ol_sorted (h : OL K w B (.slice (some ⟨g, 0, none⟩) L.length c) L) (hl : M.length = L.length) :
    OL K (sortWorldK K.enc K.size w g 0 n M.toArray os) B (.slice (some ⟨g, 0, none⟩) L.length c) M ∧ w.grownBy (sortWorldK K.enc K.size w g 0 n M.toArray os) (some g) := by
  obtain ⟨h1, h2⟩ := h
  rcases h2 with ⟨h2, _⟩ | ⟨g', cap, cur, hv, hB, hg, hn, hm, hs, ht⟩
  · cases h2
  · injection hv with e1 e2 e3
    injection e1 with e1
    injection e1 with e1
    subst e1 e3
    have hlt : g < w.heap.size := (Array.getElem?_eq_some_iff.1 hg).1
    have hcs : cur.size = c * K.size := by simpa using hs
    have hle : L.length * K.size ≤ c * K.size := Nat.mul_le_mul_right _ hn
    have hb : (sortWorldK K.enc K.size w g 0 n M.toArray os).heap[g]? = some (.cells (putCells id 0 (flatK K.enc K.size M.toArray) cur) K.t (0, 0)) := by
      unfold sortWorldK putRowK
      rw [heap_grow_old _ _ (by simpa [Sort.ahead] using hlt)]
      simp [putRow, mapBlock, Sort.ahead, Array.getElem?_modify, hg, onCells]
    refine ⟨⟨by rw [cellsK_len], .inr ⟨g, c, _, by rw [hl], hB, hb, by rw [hl]; exact hn, hm, by simp [putCells, hcs], ?_⟩⟩, ⟨rfl, rfl, rfl, ?_, fun k hk hne => ?_⟩⟩
    · apply List.ext_getElem?
      intro j
      rw [hl]
      by_cases hj : j < L.length * K.size
      · rw [List.getElem?_take_of_lt hj, Array.getElem?_toList, ← flat_list, Array.getElem?_toList]
        have hf : j < (flatK K.enc K.size M.toArray).size := by simp [hl]; exact hj
        rw [Array.getElem?_eq_getElem hf]
        have hjc : j < cur.size := by omega
        simp [putCells, hjc, hl, hj]
      · rw [List.getElem?_take_eq_none (by omega), cellsK_out (by rw [hl]; omega)]
    · unfold sortWorldK putRowK
      simp [Sort.ahead]
    · unfold sortWorldK putRowK
      rw [heap_grow_old _ _ (by simpa [Sort.ahead] using hk)]
      have : g ≠ k := fun e => hne (by rw [e])
      simp [putRow, mapBlock, Sort.ahead, Array.getElem?_modify, this]
end
end Go.Proofs.Ytpgnebhlnkoajaa

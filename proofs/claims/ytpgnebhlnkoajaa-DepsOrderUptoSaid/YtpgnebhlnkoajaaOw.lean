/-
  Lists of their own that may have been cut: their block may be larger than their room. Over any program. Conditions: those of each theorem.
-/
import Derived.Test.YtpgnebhlnkoajaaOlSort
import Derived.Test.YtpgnebhlnkoajaaOlTake
import Derived.ArgAppend
namespace Go.Proofs.Ytpgnebhlnkoajaa
open Go.ChangeShapes Go.WideShapes Go.ChangeAt Go.RowKit Go.Deep Go.Sort

section
variable {α : Type} (K : Knd α)
def OW (w : World) (B : Nat) (v : Value) (L : List α) : Prop :=
  (v = .slice none 0 0 ∧ L = []) ∨ ∃ g c cur, v = .slice (some ⟨g, 0, none⟩) L.length c ∧ B ≤ g ∧ Blk w g K.t cur ∧ L.length ≤ c ∧ c ≤ maxLen ∧ c * K.size ≤ cur.size ∧ cur.toList.take (L.length * K.size) = cellsK K L
end
section
variable {α : Type} {K : Knd α} {w w' : World} {B : Nat} {v : Value} {L : List α}
theorem OW.of_ol (h : OL K w B v L) : OW K w B v L := by
  obtain ⟨h1, h2⟩ := h
  rcases h2 with ⟨h2, h3⟩ | ⟨g, cap, cur, hv, hB, hg, hn, hm, hs, ht⟩
  · exact .inl ⟨h2, List.length_eq_zero_iff.1 h3⟩
  · exact .inr ⟨g, cap, cur, hv, hB, hg, hn, hm, by omega, ht⟩
theorem OW.nil (w : World) (B : Nat) : OW K w B (.slice none 0 0) [] := .inl ⟨rfl, rfl⟩
theorem take_of_lies {g : Nat} {t : TypeId} {cur : Array Value} (h : Lies K w (some ⟨g, 0, none⟩) L) (hb : Blk w g t cur) : cur.toList.take (L.length * K.size) = cellsK K L := by
  apply List.ext_getElem?
  intro j
  have hp := K.pos
  by_cases hj : j < L.length * K.size
  · have hq : j / K.size < L.length := (Nat.div_lt_iff_lt_mul hp).2 hj
    have hr : j % K.size < (K.enc L[j / K.size]).length := by rw [K.len]; exact Nat.mod_lt _ hp
    have e : j / K.size * K.size + j % K.size = j := by rw [Nat.mul_comm]; exact Nat.div_add_mod j K.size
    have h1 := cellsK_at K L (j / K.size) _ (j % K.size) _ (List.getElem?_eq_getElem hq) (List.getElem?_eq_getElem hr)
    obtain ⟨b', off', hA, _, hc⟩ := h (j / K.size) _ (List.getElem?_eq_getElem hq)
    injection hA with hA
    injection hA with hA1 hA2 _
    subst hA1 hA2
    have h2 := hc (j % K.size) _ (List.getElem?_eq_getElem hr)
    rw [Nat.zero_add, e, hb.rd] at h2
    rw [e] at h1
    rw [List.getElem?_take_of_lt hj, Array.getElem?_toList, h1]
    exact h2
  · rw [List.getElem?_take_eq_none (by omega), cellsK_out (by omega)]
theorem OW.of_own {A : Option Addr} (h : Lies K w A L) (hA : A = none ∨ ∃ (g : Nat) (cur : Array Value), A = some ⟨g, 0, none⟩ ∧ B ≤ g ∧ Blk w g K.t cur ∧ L.length * K.size ≤ cur.size) (hm : L.length ≤ maxLen) : OW K w B (.slice A L.length L.length) L := by
  rcases hA with rfl | ⟨g, cur, rfl, h1, h2, h3⟩
  · have h0 : L = [] := by
      cases L with
      | nil => rfl
      | cons x L =>
        obtain ⟨_, _, h, _⟩ := h 0 x rfl
        cases h
    subst h0
    exact .inl ⟨rfl, rfl⟩
  · exact .inr ⟨g, _, cur, rfl, h1, h2, Nat.le_refl _, hm, h3, take_of_lies h h2⟩
theorem OW.see (h : OW K w B v L) : ∃ A c, v = .slice A L.length c ∧ L.length ≤ c ∧ c ≤ maxLen ∧ Lies K w A L ∧ (A = none ∧ L = [] ∧ c = 0 ∨ ∃ g cur, A = some ⟨g, 0, none⟩ ∧ B ≤ g ∧ Blk w g K.t cur ∧ c * K.size ≤ cur.size) := by
  rcases h with ⟨rfl, rfl⟩ | ⟨g, c, cur, rfl, h1, h2, h3, h4, h5, h6⟩
  · exact ⟨none, 0, rfl, Nat.le_refl _, Nat.zero_le _, Lies.nil w none, .inl ⟨rfl, rfl, rfl⟩⟩
  · refine ⟨_, c, rfl, h3, h4, fun i x hx => ⟨g, 0, rfl, h2.lt, fun j u hu => ?_⟩, .inr ⟨g, cur, rfl, h1, h2, h5⟩⟩
    have e1 := cellsK_at K L i x j u hx hu
    have hj : i * K.size + j < L.length * K.size := by
      have := (List.getElem?_eq_some_iff.1 e1).1
      rwa [cellsK_len] at this
    rw [← h6, List.getElem?_take_of_lt hj, Array.getElem?_toList] at e1
    rw [Nat.zero_add, h2.rd]
    exact e1
theorem OW.lt (h : OW K w B v L) : ∀ g, v.ownBlock = some g → B ≤ g ∧ g < w.heap.size := fun g hg => by
  rcases h with ⟨rfl, rfl⟩ | ⟨g', c, cur, rfl, h1, h2, _⟩
  · cases hg
  · injection hg with hg
    subst hg
    exact ⟨h1, h2.lt⟩
theorem OW.type (h : OW K w B v L) : ∀ g, v.ownBlock = some g → ∃ cur, Blk w g K.t cur := fun g hg => by
  rcases h with ⟨rfl, rfl⟩ | ⟨g', c, cur, rfl, h1, h2, _⟩
  · cases hg
  · injection hg with hg
    subst hg
    exact ⟨cur, h2⟩
theorem OW.keep (h : OW K w B v L) (hk : ∀ g, v.ownBlock = some g → w'.heap[g]? = w.heap[g]?) : OW K w' B v L := by
  rcases h with h | ⟨g', c, cur, rfl, h1, h2, h3⟩
  · exact .inl h
  · exact .inr ⟨g', c, cur, rfl, h1, (hk g' rfl).trans h2, h3⟩
theorem OW.below (h : OW K w B v L) (hb : Below w.heap.size w w') : OW K w' B v L := h.keep fun g hg => hb.block g (h.lt g hg).2
theorem OW.drew (h : OW K w B v L) : OW K w.drew B v L := h.keep fun _ _ => rfl
theorem OW.grown {row : Option Nat} (h : OW K w B v L) (hg : w.grownBy w' row) (hr : ∀ g, v.ownBlock = some g → row ≠ some g) : OW K w' B v L := h.keep fun g hg' => hg.block g (h.lt g hg').2 (fun e => hr g hg' e.symm)
theorem OW.low (h : OW K w B v L) {B' : Nat} (hB : B' ≤ B) : OW K w B' v L := by
  rcases h with h | ⟨g', c, cur, rfl, h1, h2⟩
  · exact .inl h
  · exact .inr ⟨g', c, cur, rfl, by omega, h2⟩
variable {P : Program} {z : Value} {T : TypeId}
/-- A list whose room is full is appended to. -/
theorem run_full_append {ty : TypeId} {A : Option Addr} (hinfo : (P.info? K.t).map (fun i => (i.zero, i.size, i.bytes)) = some (some z, K.size, K.bytes)) (hz : z.cells.size = K.size) (hT : P.underlying T = some (.slice K.t))
    (hL : OW K w B (.slice A L.length L.length) L) {x : α} {b off c : Nat} (hM : Lies K w (some ⟨b, off, none⟩) [x]) (h63 : L.length + 1 ≤ maxLen) (hl : (L.length + 1) * K.bytes ≤ 140737488355328) (hB : B ≤ w.heap.size) :
    ∃ v' w', (Builtin.append_ #[T, T] ty #[.slice A L.length L.length, .slice (some ⟨b, off, none⟩) 1 c]).run P w = .ok v' w' ∧ OL K w' B v' (L ++ [x]) ∧ w.grownBy w' none := by
  obtain ⟨A', c', hv, _, _, hLi, hA⟩ := hL.see
  injection hv with e1 _ _
  subst e1
  rcases hA with ⟨rfl, rfl, _⟩ | ⟨g, cur, rfl, h1, h2, h3⟩
  · obtain ⟨v', w', hr, h4, h5⟩ := run_ol_append (ty := ty) (c := c) hinfo hz hT (OL.nil w B) hM (by simpa using h63) (by simpa using hl) hB
    exact ⟨v', w', hr, h4, h5⟩
  · obtain ⟨i0, hi0, hz0, hz1, hz2⟩ := info_parts hinfo
    obtain ⟨v', w', hr, h4, h5⟩ := run_append_arg_grows (P := P) w T ty K.t i0 z K.size K.bytes hT hi0 hz0 hz1 hz2 hz K.pos ⟨g, 0, none⟩ L.length L.length (cellsK K L) (cellsK_len K L) (fun j u hu => by
      obtain ⟨i, y, r, e1, e2, rfl⟩ := cellsK_inv K _ j u hu
      obtain ⟨b', off', e3, _, e4⟩ := hLi i y e1
      cases e3
      rw [addr_add, show 0 + (i * K.size + r) = 0 + i * K.size + r by omega]
      exact e4 r u e2) ⟨b, off, none⟩ 1 c (cellsK K [x]) (by rw [cellsK_len]; rfl) (fun j u hu => by
      obtain ⟨i, y, r, e1, e2, rfl⟩ := cellsK_inv K _ j u hu
      obtain ⟨b', off', e3, _, e4⟩ := hM i y e1
      cases e3
      rw [addr_add, show off + (i * K.size + r) = off + i * K.size + r by omega]
      exact e4 r u e2) (Nat.lt_succ_self _) h63 hl
    refine ⟨v', w', hr, ?_, h5⟩
    have : OL K w' w.heap.size v' (L ++ [x]) := by unfold OL; rw [cellsK_add, List.length_append]; exact h4
    exact this.low hB
end
section
variable {α : Type} [Inhabited α] {K : Knd α} {w : World} {B g c n : Nat} {L M : List α} {os : Array Obj}
theorem ow_holds (h : OW K w B (.slice (some ⟨g, 0, none⟩) L.length c) L) : HoldsK K.enc K.size w g 0 L.toArray := by
  rcases h with ⟨h, _⟩ | ⟨g', c', cur, hv, h1, h2, h3, h4, h5, h6⟩
  · cases h
  injection hv with e1 _ e3
  injection e1 with e1
  injection e1 with e1
  subst e1 e3
  intro j hj
  have hf : (flatK K.enc K.size L.toArray)[j]? = some (flatK K.enc K.size L.toArray)[j]! := by rw [getElem!_pos _ j hj]; exact Array.getElem?_eq_getElem hj
  rw [← Array.getElem?_toList, flat_list, ← h6, List.getElem?_take_of_lt (by simpa using hj), Array.getElem?_toList] at hf
  exact ⟨by rw [Nat.zero_add, h2.rd]; exact hf, h2.fz _⟩
theorem ow_sorted (h : OW K w B (.slice (some ⟨g, 0, none⟩) L.length c) L) (hl : M.length = L.length) :
    OW K (sortWorldK K.enc K.size w g 0 n M.toArray os) B (.slice (some ⟨g, 0, none⟩) L.length c) M ∧ w.grownBy (sortWorldK K.enc K.size w g 0 n M.toArray os) (some g) := by
  rcases h with ⟨h, _⟩ | ⟨g', c', cur, hv, hB, hg, hn, hm, hs, ht⟩
  · cases h
  · injection hv with e1 e2 e3
    injection e1 with e1
    injection e1 with e1
    subst e1 e3
    have hlt : g < w.heap.size := hg.lt
    have hg' : w.heap[g]? = some (.cells cur K.t (0, 0)) := hg
    have hle : L.length * K.size ≤ c * K.size := Nat.mul_le_mul_right _ hn
    have hb : (sortWorldK K.enc K.size w g 0 n M.toArray os).heap[g]? = some (.cells (putCells id 0 (flatK K.enc K.size M.toArray) cur) K.t (0, 0)) := by
      unfold sortWorldK putRowK
      rw [heap_grow_old _ _ (by simpa [Sort.ahead] using hlt)]
      simp [putRow, mapBlock, Sort.ahead, Array.getElem?_modify, hg', onCells]
    refine ⟨.inr ⟨g, c, _, by rw [hl], hB, hb, by rw [hl]; exact hn, hm, by simp [putCells]; exact hs, ?_⟩, ⟨rfl, rfl, rfl, ?_, fun k hk hne => ?_⟩⟩
    · apply List.ext_getElem?
      intro j
      rw [hl]
      by_cases hj : j < L.length * K.size
      · rw [List.getElem?_take_of_lt hj, Array.getElem?_toList, ← flat_list, Array.getElem?_toList]
        have hf : j < (flatK K.enc K.size M.toArray).size := by simp [hl]; exact hj
        rw [Array.getElem?_eq_getElem hf]
        have hjc : j < cur.size := by omega
        simp [putCells, hjc, hl, hj]
      · rw [List.getElem?_take_eq_none (by omega), cellsK_out (by rw [hl]; omega)]
    · unfold sortWorldK putRowK
      simp [Sort.ahead]
    · unfold sortWorldK putRowK
      rw [heap_grow_old _ _ (by simpa [Sort.ahead] using hk)]
      have : g ≠ k := fun e => hne (by rw [e])
      simp [putRow, mapBlock, Sort.ahead, Array.getElem?_modify, this]
end
end Go.Proofs.Ytpgnebhlnkoajaa

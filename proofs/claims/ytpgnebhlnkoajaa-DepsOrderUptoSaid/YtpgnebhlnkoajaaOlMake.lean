/-
  Lists that a walk makes by 'make' and fills in place. Over any program. Conditions: those of each theorem.
-/
import Derived.Test.YtpgnebhlnkoajaaOlPut
import Derived.Laws.MakeOwn
namespace Go.Proofs.Ytpgnebhlnkoajaa
open Go.ChangeShapes Go.WideShapes Go.ChangeAt Go.RowKit Go.Deep

/-- Some cells are written one behind the other. -/
def stores (w : World) (g o : Nat) : Nat → List Value → World
  | _, [] => w
  | k, u :: us => stores (w.setCell ⟨g, o + k, none⟩ u) g o (k + 1) us
theorem bel_stores {a : World} {g o : Nat} (hg : a.heap.size ≤ g) : ∀ (us : List Value) (k : Nat) (w : World), Below a.heap.size a w → Below a.heap.size a (stores w g o k us)
  | [], _, _, h => h
  | u :: us, k, _, h => bel_stores hg us (k + 1) _ (bel_set h hg u)
theorem blk_stores {g o : Nat} {t : TypeId} : ∀ (us : List Value) (k : Nat) (w : World) (cur : Array Value), Blk w g t cur → o + k + us.length ≤ cur.size →
    ∃ cur', Blk (stores w g o k us) g t cur' ∧ cur'.size = cur.size ∧ ∀ j, cur'[j]? = if o + k ≤ j ∧ j < o + k + us.length then us[j - (o + k)]? else cur[j]?
  | [], k, w, cur, h, _ => ⟨cur, h, rfl, fun j => by rw [if_neg (by simp)]⟩
  | u :: us, k, w, cur, h, hl => by
    simp only [List.length_cons] at hl
    obtain ⟨cur', h1, h2, h3⟩ := blk_stores (g := g) (o := o) (t := t) us (k + 1) (w.setCell ⟨g, o + k, none⟩ u) (cur.setIfInBounds (o + k) u) (h.put (o + k) u) (by simp; omega)
    refine ⟨cur', h1, by rw [h2]; simp, fun j => ?_⟩
    rw [h3 j]
    by_cases hj : j = o + k
    · subst hj
      rw [if_neg (by omega), if_pos ⟨Nat.le_refl _, by simp⟩, Nat.sub_self]
      rw [Array.getElem?_setIfInBounds_self_of_lt (by omega)]
      rfl
    · by_cases hin : o + (k + 1) ≤ j ∧ j < o + (k + 1) + us.length
      · rw [if_pos hin, if_pos ⟨by omega, by simp; omega⟩, show j - (o + k) = (j - (o + (k + 1))) + 1 by omega, List.getElem?_cons_succ]
      · rw [if_neg hin, if_neg (by simp; omega), Array.getElem?_setIfInBounds_ne (by omega)]
theorem blk_stores_far {g o b : Nat} {t : TypeId} {cs : Array Value} (hne : b ≠ g) : ∀ (us : List Value) (k : Nat) (w : World), Blk w b t cs → Blk (stores w g o k us) b t cs
  | [], _, _, h => h
  | u :: us, k, _, h => blk_stores_far hne us (k + 1) _ (h.far hne u)

section
variable {α : Type} {K : Knd α}
theorem cellsK_out {L : List α} {j : Nat} (h : L.length * K.size ≤ j) : (cellsK K L)[j]? = none := List.getElem?_eq_none (by rw [cellsK_len]; exact h)
theorem cellsK_get (L : List α) (j : Nat) : (cellsK K L)[j]? = (L[j / K.size]?).bind fun x => (K.enc x)[j % K.size]? := by
  have hp := K.pos
  by_cases hj : j < L.length * K.size
  · have hq : j / K.size < L.length := (Nat.div_lt_iff_lt_mul hp).2 hj
    have hx := List.getElem?_eq_getElem hq
    rw [hx]
    have hr : j % K.size < (K.enc L[j / K.size]).length := by rw [K.len]; exact Nat.mod_lt _ hp
    have hu := List.getElem?_eq_getElem hr
    have := cellsK_at K L _ _ _ _ hx hu
    rw [Nat.div_add_mod' j K.size] at this
    rw [this]
    exact hu.symm
  · rw [cellsK_out (by omega), List.getElem?_eq_none (by
      have : ¬ j / K.size < L.length := fun h => hj ((Nat.div_lt_iff_lt_mul hp).1 h)
      omega)]
    rfl
theorem cellsK_set {L : List α} {i : Nat} {y : α} (hi : i < L.length) (j : Nat) : (cellsK K (L.set i y))[j]? = if i * K.size ≤ j ∧ j < i * K.size + K.size then (K.enc y)[j - i * K.size]? else (cellsK K L)[j]? := by
  have hp := K.pos
  rw [cellsK_get, cellsK_get, List.getElem?_set]
  by_cases hq : i = j / K.size
  · have hj := Nat.div_add_mod' j K.size
    have hm := Nat.mod_lt j hp
    rw [if_pos hq, if_pos hi, if_pos (by rw [hq]; omega)]
    rw [hq, show j - j / K.size * K.size = j % K.size by omega]
    rfl
  · rw [if_neg hq, if_neg]
    intro h
    apply hq
    refine (Nat.div_eq_of_lt_le (by omega) ?_).symm
    rw [Nat.add_mul]
    omega
variable {w : World} {B g c : Nat} {L : List α}
theorem OL.store (h : OL K w B (.slice (some ⟨g, 0, none⟩) L.length c) L) {i : Nat} (hi : i < L.length) (y : α) : OL K (stores w g (i * K.size) 0 (K.enc y)) B (.slice (some ⟨g, 0, none⟩) L.length c) (L.set i y) := by
  obtain ⟨h1, h2⟩ := h
  have hk : i * K.size + K.size ≤ L.length * K.size := by
    have := Nat.mul_le_mul_right K.size (show i + 1 ≤ L.length from hi)
    rw [Nat.add_mul] at this
    omega
  rcases h2 with ⟨h2, _⟩ | ⟨g', cap, cur, hv, hB, hg, hn, hm, hs, ht⟩
  · cases h2
  · injection hv with e1 e2 e3
    injection e1 with e1
    injection e1 with e1
    subst e1 e3
    have hcs : cur.size = c * K.size := by simpa using hs
    have hc : L.length * K.size ≤ c * K.size := Nat.mul_le_mul_right _ hn
    obtain ⟨cur', b1, b2, b3⟩ := blk_stores (t := K.t) (g := g) (o := i * K.size) (K.enc y) 0 w cur hg (by rw [K.len, Nat.add_zero]; omega)
    refine ⟨by rw [cellsK_len], .inr ⟨g, c, cur', by rw [List.length_set], hB, b1, by rw [List.length_set]; exact hn, hm, by rw [b2]; exact hs, ?_⟩⟩
    rw [List.length_set]
    apply List.ext_getElem?
    intro j
    rw [cellsK_set hi]
    by_cases hj : j < L.length * K.size
    · rw [List.getElem?_take, if_pos hj, Array.getElem?_toList, b3 j, K.len, Nat.add_zero]
      by_cases hin : i * K.size ≤ j ∧ j < i * K.size + K.size
      · rw [if_pos hin, if_pos hin]
      · rw [if_neg hin, if_neg hin, ← ht, List.getElem?_take, if_pos hj, Array.getElem?_toList]
    · rw [List.getElem?_take, if_neg hj, if_neg (by omega), cellsK_out (by omega)]
theorem ol_made (w : World) (z : α) (n : Nat) (hn : n ≤ maxLen) : OL K (w.alloc (.cells (madeCells (K.enc z).toArray (n * K.size)) K.t)) w.heap.size (.slice (some ⟨w.heap.size, 0, none⟩) n n) (List.replicate n z) := by
  have hp := K.pos
  refine ⟨by rw [cellsK_len], .inr ⟨w.heap.size, n, _, by simp, Nat.le_refl _, Blk.new w rfl K.t _, by simp, hn, by simp [size_madeCells], ?_⟩⟩
  apply List.ext_getElem?
  intro j
  rw [cellsK_get, List.length_replicate, List.getElem?_take]
  by_cases hj : j < n * K.size
  · have hq : j / K.size < n := (Nat.div_lt_iff_lt_mul hp).2 hj
    have hr : j % K.size < (K.enc z).length := by rw [K.len]; exact Nat.mod_lt _ hp
    rw [if_pos hj, Array.getElem?_toList, List.getElem?_replicate, if_pos hq]
    show _ = (K.enc z)[j % K.size]?
    have hsz : (K.enc z).toArray.size = K.size := by simp [K.len]
    unfold madeCells
    rw [Array.getElem?_map, Array.getElem?_range]
    simp only [hj, if_true, Option.map_some, hsz]
    rw [List.getElem?_eq_getElem hr]
    simp [hr]
  · have hq : ¬ j / K.size < n := fun h => hj ((Nat.div_lt_iff_lt_mul hp).1 h)
    rw [if_neg hj, List.getElem?_replicate, if_neg hq]
    rfl
/-- A block that holds just these. -/
theorem Lies.of_blk {t : TypeId} {cs : Array Value} (h : Blk w g t cs) (e : cs.toList = cellsK K L) : Lies K w (some ⟨g, 0, none⟩) L := fun i x hx => ⟨g, 0, rfl, h.lt, fun j u hu => by
  rw [Nat.zero_add, h.rd, ← Array.getElem?_toList, e]
  exact cellsK_at K L i x j u hx hu⟩
end
end Go.Proofs.Ytpgnebhlnkoajaa

/-
  Lists that a walk builds by appends, of whatever elements: what they hold, what a frame leaves of them, the law on append of one list to another. Over any program. Conditions: those of each theorem.
-/
import Derived.Test.YtpgnebhlnkoajaaBase
import Derived.OwnWalk
import Derived.Deep.Upon
namespace Go.Proofs.Ytpgnebhlnkoajaa
open Go.ChangeShapes Go.WideShapes Go.ChangeAt Go.RowKit Go.Deep

/-- A kind of element: its type, its cells, its bytes, how it lies. -/
structure Knd (α : Type) where
  t : TypeId
  size : Nat
  bytes : Nat
  enc : α → List Value
  len : ∀ x, (enc x).length = size
  one : ∀ x, ∀ u ∈ enc x, u.oneCell' = true
  pos : 0 < size

section
variable {α : Type} (K : Knd α)
def cellsK (L : List α) : List Value := L.flatMap K.enc
theorem cellsK_len (L : List α) : (cellsK K L).length = L.length * K.size := by
  induction L with
  | nil => simp [cellsK]
  | cons x L ih =>
    show (K.enc x ++ cellsK K L).length = _
    rw [List.length_append, ih, K.len, List.length_cons, Nat.add_mul]
    omega
theorem cellsK_add (L M : List α) : cellsK K (L ++ M) = cellsK K L ++ cellsK K M := by simp [cellsK]
theorem cellsK_at : ∀ (L : List α) (i : Nat) (x : α) (j : Nat) (u : Value), L[i]? = some x → (K.enc x)[j]? = some u → (cellsK K L)[i * K.size + j]? = some u
  | [], i, x, _, _, h, _ => by simp at h
  | y :: L, 0, x, j, u, h, hu => by
    simp at h
    subst h
    show (K.enc y ++ cellsK K L)[_]? = _
    rw [Nat.zero_mul, Nat.zero_add, List.getElem?_append_left (by
      obtain ⟨h, _⟩ := List.getElem?_eq_some_iff.1 hu
      exact h)]
    exact hu
  | y :: L, i + 1, x, j, u, h, hu => by
    have := cellsK_at L i x j u (by simpa using h) hu
    show (K.enc y ++ cellsK K L)[_]? = _
    rw [List.getElem?_append_right (by rw [K.len, Nat.add_mul]; omega), K.len, show (i + 1) * K.size + j - K.size = i * K.size + j by rw [Nat.add_mul]; omega]
    exact this
theorem cellsK_inv : ∀ (L : List α) (k : Nat) (u : Value), (cellsK K L)[k]? = some u → ∃ i x j, L[i]? = some x ∧ (K.enc x)[j]? = some u ∧ k = i * K.size + j
  | [], k, u, h => by simp [cellsK] at h
  | y :: L, k, u, h => by
    have h' : (K.enc y ++ cellsK K L)[k]? = some u := h
    by_cases hk : k < (K.enc y).length
    · rw [List.getElem?_append_left hk] at h'
      exact ⟨0, y, k, rfl, h', by omega⟩
    · rw [List.getElem?_append_right (by omega), K.len] at h'
      rw [K.len] at hk
      obtain ⟨i, x, j, h1, h2, h3⟩ := cellsK_inv L _ u h'
      exact ⟨i + 1, x, j, by simpa using h1, h2, by rw [Nat.add_mul]; omega⟩
theorem cellsK_one (L : List α) : ∀ u ∈ cellsK K L, u.oneCell' = true := by
  intro u hu
  obtain ⟨x, _, hx⟩ := List.mem_flatMap.1 hu
  exact K.one x u hx

/-- These elements lie so in memory, one behind the other. -/
def Lies (w : World) (A : Option Addr) (L : List α) : Prop := ∀ i x, L[i]? = some x → ∃ b off, A = some ⟨b, off, none⟩ ∧ b < w.heap.size ∧ ∀ j u, (K.enc x)[j]? = some u → w.cell? ⟨b, off + i * K.size + j, none⟩ = some u
/-- The value is a list that this call has built, of these elements, in blocks from B on. -/
def OL (w : World) (B : Nat) (v : Value) (L : List α) : Prop := w.ownsRow B K.t K.size v L.length (cellsK K L)
end

section
variable {α : Type} {K : Knd α} {w w' : World} {B : Nat} {v : Value} {L : List α}
theorem Lies.nil (w : World) (A : Option Addr) : Lies K w A [] := fun i x h => by simp at h
theorem Lies.below {A : Option Addr} (h : Lies K w A L) (hb : Below w.heap.size w w') : Lies K w' A L := fun i x hx => by
  obtain ⟨b, off, h1, h2, h3⟩ := h i x hx
  exact ⟨b, off, h1, Nat.lt_of_lt_of_le h2 hb.size, fun j u hu => (hb.cell (p := ⟨b, off + i * K.size + j, none⟩) h2).trans (h3 j u hu)⟩
theorem Lies.take {A : Option Addr} (h : Lies K w A L) (n : Nat) : Lies K w A (L.take n) := fun i x hx => h i x (by
  rw [List.getElem?_take] at hx
  split at hx
  · exact hx
  · cases hx)
theorem Lies.drop {b off : Nat} (h : Lies K w (some ⟨b, off, none⟩) L) (n : Nat) : Lies K w (some ⟨b, off + n * K.size, none⟩) (L.drop n) := fun i x hx => by
  rw [List.getElem?_drop] at hx
  obtain ⟨b', off', h1, h2, h3⟩ := h _ x hx
  cases h1
  refine ⟨b, off + n * K.size, rfl, h2, fun j u hu => ?_⟩
  rw [show off + n * K.size + i * K.size + j = off + (n + i) * K.size + j by rw [Nat.add_mul]; omega]
  exact h3 j u hu
theorem Lies.cut {g cap a : Nat} (h : Lies K w (some ⟨g, 0, none⟩) L) (hcap : L.length ≤ cap) : Lies K w (if cap = a then some ⟨g, 0, none⟩ else some ⟨g, a * K.size, none⟩) (L.drop a) := by
  split
  · rename_i e
    rw [List.drop_eq_nil_of_le (by omega)]
    exact Lies.nil _ _
  · have := h.drop a
    rwa [Nat.zero_add] at this
theorem Lies.skip {g a : Nat} (h : Lies K w (some ⟨g, 0, none⟩) L) : Lies K w (some ⟨g, a * K.size, none⟩) (L.drop a) := by
  have := h.drop a
  rwa [Nat.zero_add] at this
theorem Lies.one {b off : Nat} {x : α} (hb : b < w.heap.size) (h : ∀ j u, (K.enc x)[j]? = some u → w.cell? ⟨b, off + j, none⟩ = some u) : Lies K w (some ⟨b, off, none⟩) [x] := fun i y hy => by
  match i, hy with
  | 0, hy =>
    simp at hy
    subst hy
    exact ⟨b, off, rfl, hb, fun j u hu => by rw [Nat.zero_mul, Nat.add_zero]; exact h j u hu⟩
  | i + 1, hy => simp at hy

theorem Lies.blk {g : Nat} {t : TypeId} {cs : Array Value} {x : α} (h : Blk w g t cs) (e : cs.toList = K.enc x) : Lies K w (some ⟨g, 0, none⟩) [x] := Lies.one h.lt fun j u hu => by
  rw [Nat.zero_add, h.rd, ← Array.getElem?_toList, e]
  exact hu

theorem OL.nil (w : World) (B : Nat) : OL K w B (.slice none 0 0) [] := World.ownsRow_nil _ _ _ _
theorem OL.see (h : OL K w B v L) : ∃ A cap, v = .slice A L.length cap ∧ L.length ≤ cap ∧ cap ≤ maxLen ∧ Lies K w A L ∧ (A = none ∨ ∃ g, A = some ⟨g, 0, none⟩ ∧ B ≤ g ∧ g < w.heap.size) := by
  have hc := fun g => World.ownsRow.cells (g := g) h
  have hl := h.lt
  rcases h.2 with ⟨h1, h2⟩ | ⟨g, cap, cur, rfl, hb, hg, hn, hm, hs, ht⟩
  · have hL := List.length_eq_zero_iff.1 h2
    subst hL
    exact ⟨none, 0, h1, Nat.le_refl _, by simp [maxLen], Lies.nil _ _, .inl rfl⟩
  · refine ⟨_, cap, rfl, hn, hm, fun i x hx => ⟨g, 0, rfl, (hl g rfl).2, fun j u hu => ?_⟩, .inr ⟨g, rfl, hb, (hl g rfl).2⟩⟩
    have := hc g rfl _ _ (cellsK_at K L i x j u hx hu)
    rw [addr_add] at this
    rw [show 0 + i * K.size + j = 0 + (i * K.size + j) by omega]
    exact this
theorem OL.keep (h : OL K w B v L) (hk : ∀ g, v.ownBlock = some g → w'.heap[g]? = w.heap[g]?) : OL K w' B v L := by
  refine ⟨h.1, ?_⟩
  rcases h.2 with h1 | ⟨g, cap, cur, rfl, hB, hg, rest⟩
  · exact .inl h1
  · exact .inr ⟨g, cap, cur, rfl, hB, (hk g rfl).trans hg, rest⟩
theorem OL.below (h : OL K w B v L) (hb : Below w.heap.size w w') : OL K w' B v L := h.keep fun g hg => hb.block g (h.lt g hg).2
theorem OL.alloc (h : OL K w B v L) (o : Obj) : OL K (w.alloc o) B v L := h.below (bel_alloc (bel_refl w) o)
theorem OL.drew (h : OL K w B v L) : OL K w.drew B v L := h.keep fun _ _ => rfl
theorem OL.drewN (h : OL K w B v L) (n : Nat) : OL K (w.drewN n) B v L := h.keep fun _ _ => rfl
theorem OL.set (h : OL K w B v L) {b : Nat} (hb : ∀ g, v.ownBlock = some g → g ≠ b) (o : Nat) (u : Value) : OL K (w.setCell ⟨b, o, none⟩ u) B v L :=
  h.keep fun g hg => Below.heap_setCell w ⟨b, o, none⟩ u g (hb g hg)
theorem OL.grown {row : Option Nat} (h : OL K w B v L) (hg : w.grownBy w' row) (hr : ∀ g, v.ownBlock = some g → row ≠ some g) : OL K w' B v L :=
  h.keep fun g hg' => hg.block g (h.lt g hg').2 (fun e => hr g hg' e.symm)
/-- Its block's type. -/
theorem OL.type (h : OL K w B v L) : ∀ g, v.ownBlock = some g → ∃ cur, w.heap[g]? = some (.cells cur K.t (0, 0)) := by
  intro g hg
  rcases h.2 with ⟨rfl, _⟩ | ⟨g', cap, cur, rfl, hB, hc, rest⟩
  · cases hg
  · cases hg
    exact ⟨cur, hc⟩
theorem OL.low {B' : Nat} (h : OL K w B v L) (hB : B' ≤ B) : OL K w B' v L := by
  refine ⟨h.1, ?_⟩
  rcases h.2 with h1 | ⟨g, cap, cur, rfl, hb, rest⟩
  · exact .inl h1
  · exact .inr ⟨g, cap, cur, rfl, Nat.le_trans hB hb, rest⟩

theorem run_ol_append {P : Program} {z : Value} {T ty : TypeId} (hinfo : (P.info? K.t).map (fun i => (i.zero, i.size, i.bytes)) = some (some z, K.size, K.bytes)) (hz : z.cells.size = K.size) (hT : P.underlying T = some (.slice K.t))
    (hL : OL K w B v L) {A : Option Addr} {M : List α} {c : Nat} (hM : Lies K w A M) (h63 : L.length + M.length ≤ maxLen) (hl : (L.length + M.length) * K.bytes ≤ 140737488355328) (hB : B ≤ w.heap.size) :
    ∃ v' w', (Builtin.append_ #[T, T] ty #[v, .slice A M.length c]).run P w = .ok v' w' ∧ OL K w' B v' (L ++ M) ∧ w.grownBy w' v.ownBlock := by
  obtain ⟨i0, hi0, hz0, hz1, hz2⟩ := info_parts hinfo
  cases M with
  | nil =>
    obtain ⟨A', cap, rfl, hcap, _, _, _⟩ := hL.see
    have hsrc : Src P i0.size T (.slice A 0 c) 0 [] w := by
      cases A with
      | none => exact Src.ofNil w hT c
      | some ad => exact Src.ofSlice w hT ad 0 c [] (by simp) (by simp) (by simp)
    exact ⟨_, w, run_append_nothing w T T ty K.t i0 hT hi0 A' L.length cap hcap _ hsrc, by rw [List.append_nil]; exact hL, ⟨rfl, rfl, rfl, Nat.le_refl _, fun _ _ _ => rfl⟩⟩
  | cons x M =>
    obtain ⟨b, off, rfl, hb, _⟩ := hM 0 x rfl
    obtain ⟨v', w', h1, h2, h3, _⟩ := run_append_own (P := P) w B T ty K.t i0 z K.size K.bytes hT hi0 hz0 hz1 hz2 hz K.pos v L.length (cellsK K L) hL ⟨b, off, none⟩ (x :: M).length c (cellsK K (x :: M)) (cellsK_len K _) (fun j u hu => by
      obtain ⟨i, y, r, e1, e2, rfl⟩ := cellsK_inv K _ j u hu
      obtain ⟨b', off', e3, _, e4⟩ := hM i y e1
      cases e3
      rw [addr_add, show off + (i * K.size + r) = off + i * K.size + r by omega]
      exact e4 r u e2) (cellsK_one K _) h63 hl hB
    exact ⟨v', w', h1, by unfold OL; rw [cellsK_add, List.length_append]; exact h2, h3⟩

theorem wp_ol_append {P : Program} {z : Value} {T : TypeId} (hinfo : (P.info? K.t).map (fun i => (i.zero, i.size, i.bytes)) = some (some z, K.size, K.bytes)) (hz : z.cells.size = K.size) (hT : P.underlying T = some (.slice K.t))
    {ops : Array Oper} {rest : List Oper} {o : Oper} {a : Act} {Q : Exit → Act → World → Prop} (hgd : o.guard = none) (s x : Operand)
    (ho : o.op = .call { callee := .builtin .append, args := #[s, x], argTypes := #[T, T] }) (hs : a.eval s = v)
    (hL : OL K w B v L) {A : Option Addr} {M : List α} {c m : Nat} (hx : a.eval x = .slice A m c) (hm : M.length = m) (hM : Lies K w A M) (h63 : L.length + m ≤ maxLen) (hl : (L.length + m) * K.bytes ≤ 140737488355328) (hB : B ≤ w.heap.size)
    (h : ∀ v' w', OL K w' B v' (L ++ M) → w.grownBy w' v.ownBlock → wpList P ops Q rest (a.put o.dst v') w') : wpList P ops Q (o :: rest) a w := by
  subst hm
  obtain ⟨v', w', hr, h2, h3⟩ := run_ol_append (ty := o.type) hinfo hz hT hL hM (c := c) h63 hl hB
  refine wpList_plain hgd fun K' hK => ?_
  unfold Oper.wp execOp
  simp only [ho, resolve, invoke, builtin, Sem.run_bind, Sem.run_pure, Result.andThen_ok, List.map_toArray, List.map_cons, List.map_nil, hs, hx, hr]
  exact hK _ _ (h v' w' h2 h3)
end
end Go.Proofs.Ytpgnebhlnkoajaa

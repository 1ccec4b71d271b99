/-
  Bands, plain: pairs in their order; what an insertion, a removal leave. Conditions: those of each theorem.
-/
import Derived.Test.YtpgnebhlnkoajaaAddrB
import Derived.Test.YtpgnebhlnkoajaaOl
namespace Go.Proofs.Ytpgnebhlnkoajaa
open Go.Deep

/-- A rectangle and the cell that has it. -/
structure Pr where
  row : Int
  col : Int
  t : Int
  l : Int
  b : Int
  r : Int
  deriving DecidableEq
def KE : Knd Pr where
  t := 51
  size := 7
  bytes := 56
  enc x := [.int .i64 x.row, .int .i64 x.col, .bool true, .int .i64 x.t, .int .i64 x.l, .int .i64 x.b, .int .i64 x.r]
  len _ := rfl
  one x u hu := by
    simp at hu
    rcases hu with rfl | rfl | rfl | rfl | rfl | rfl | rfl <;> rfl
  pos := by omega
theorem info_ke : (Try.prog.info? KE.t).map (fun i => (i.zero, i.size, i.bytes)) = some (some (.agg #[.int .i64 0, .int .i64 0, .bool false, .int .i64 0, .int .i64 0, .int .i64 0, .int .i64 0]), KE.size, KE.bytes) := by kernel_rfl
/-- A cell. -/
structure Cl where
  row : Int
  col : Int
  deriving DecidableEq
def KC : Knd Cl where
  t := 33
  size := 2
  bytes := 16
  enc x := [.int .i64 x.row, .int .i64 x.col]
  len _ := rfl
  one x u hu := by
    simp at hu
    rcases hu with rfl | rfl <;> rfl
  pos := by omega
theorem info_kc : (Try.prog.info? KC.t).map (fun i => (i.zero, i.size, i.bytes)) = some (some (.agg #[.int .i64 0, .int .i64 0]), KC.size, KC.bytes) := by kernel_rfl

/-- Does one stand ahead? -/
def ltP (x y : Pr) : Prop := x.row < y.row ∨ x.row = y.row ∧ (x.col < y.col ∨ x.col = y.col ∧ (x.t < y.t ∨ x.t = y.t ∧ (x.l < y.l ∨ x.l = y.l ∧ (x.b < y.b ∨ x.b = y.b ∧ x.r < y.r))))
instance (x y : Pr) : Decidable (ltP x y) := by unfold ltP; infer_instance
theorem ltP_irrefl (x : Pr) : ¬ ltP x x := by unfold ltP; omega
theorem ltP_trans {x y z : Pr} (h : ltP x y) (k : ltP y z) : ltP x z := by unfold ltP at *; omega
theorem ltP_total (x y : Pr) : ltP x y ∨ x = y ∨ ltP y x := by
  obtain ⟨a, b, c, d, e, f⟩ := x
  obtain ⟨a', b', c', d', e', f'⟩ := y
  simp only [ltP, Pr.mk.injEq]
  omega
def SrtP (L : List Pr) : Prop := L.Pairwise ltP
/-- How many stand ahead. -/
def cbP (p : Pr) : List Pr → Nat
  | [] => 0
  | x :: l => if ltP x p then cbP p l + 1 else 0
theorem cbP_le (p : Pr) : ∀ l, cbP p l ≤ l.length
  | [] => Nat.le_refl _
  | x :: l => by
    have := cbP_le p l
    unfold cbP
    split
    · simp; omega
    · omega
theorem cbP_drop (p : Pr) {l : List Pr} {k : Nat} {x : Pr} (h : l[k]? = some x) : cbP p (l.drop k) = if ltP x p then cbP p (l.drop (k + 1)) + 1 else 0 := by
  obtain ⟨hk, e⟩ := List.getElem?_eq_some_iff.1 h
  rw [List.drop_eq_getElem_cons hk, e]
  rfl
def insP (p : Pr) (l : List Pr) : List Pr := l.take (cbP p l) ++ [p] ++ l.drop (cbP p l)
theorem cbP_lt (p : Pr) : ∀ (l : List Pr) (i : Nat) (x : Pr), l[i]? = some x → i < cbP p l → ltP x p
  | [], i, x, h, _ => by simp at h
  | y :: l, i, x, h, hi => by
    unfold cbP at hi
    split at hi
    · rename_i hy
      cases i with
      | zero =>
        simp at h
        rw [← h]; exact hy
      | succ i => exact cbP_lt p l i x (by simpa using h) (by omega)
    · omega
theorem cbP_at (p : Pr) : ∀ (l : List Pr) (x : Pr), l[cbP p l]? = some x → ¬ ltP x p
  | [], x, h => by simp at h
  | y :: l, x, h => by
    unfold cbP at h
    split at h
    · exact cbP_at p l x (by simpa using h)
    · rename_i hy
      simp at h
      rw [← h]; exact hy
theorem srt_get {L : List Pr} (h : SrtP L) {i j : Nat} {x y : Pr} (hi : L[i]? = some x) (hj : L[j]? = some y) (hij : i < j) : ltP x y := by
  obtain ⟨h1, rfl⟩ := List.getElem?_eq_some_iff.1 hi
  obtain ⟨h2, rfl⟩ := List.getElem?_eq_some_iff.1 hj
  exact List.pairwise_iff_getElem.1 h i j h1 h2 hij
/-- It is there just if it stands at its place. -/
theorem mem_at {L : List Pr} (h : SrtP L) (p : Pr) : p ∈ L ↔ L[cbP p L]? = some p := by
  refine ⟨fun hm => ?_, fun h => List.mem_of_getElem? h⟩
  obtain ⟨i, hi⟩ := List.getElem?_of_mem hm
  have hil := (List.getElem?_eq_some_iff.1 hi).1
  rcases Nat.lt_trichotomy i (cbP p L) with hlt | rfl | hgt
  · exact absurd (cbP_lt p L i p hi hlt) (ltP_irrefl p)
  · exact hi
  · have hx := List.getElem?_eq_getElem (show cbP p L < L.length by omega)
    have h1 := srt_get h hx hi hgt
    exact absurd h1 (cbP_at p L _ hx)
theorem mem_insP (p x : Pr) (L : List Pr) : x ∈ insP p L ↔ x = p ∨ x ∈ L := by
  unfold insP
  rw [List.mem_append, List.mem_append, List.mem_singleton]
  constructor
  · rintro ((h | h) | h)
    · exact .inr (List.mem_of_mem_take h)
    · exact .inl h
    · exact .inr (List.mem_of_mem_drop h)
  · rintro (h | h)
    · exact .inl (.inr h)
    · rw [← List.take_append_drop (cbP p L) L, List.mem_append] at h
      rcases h with h | h
      · exact .inl (.inl h)
      · exact .inr h
theorem srt_insP {p : Pr} {L : List Pr} (h : SrtP L) (hp : p ∉ L) : SrtP (insP p L) := by
  unfold SrtP insP
  have h0 : (L.take (cbP p L) ++ L.drop (cbP p L)).Pairwise ltP := by rw [List.take_append_drop]; exact h
  rw [List.pairwise_append] at h0
  obtain ⟨h1, h2, h3⟩ := h0
  have ha : ∀ a, a ∈ L.take (cbP p L) → ltP a p := fun a ha => by
    obtain ⟨i, hi⟩ := List.getElem?_of_mem ha
    rw [List.getElem?_take] at hi
    split at hi
    · rename_i hlt
      exact cbP_lt p L i a hi hlt
    · cases hi
  have hb : ∀ b, b ∈ L.drop (cbP p L) → ltP p b := fun b hb => by
    obtain ⟨i, hi⟩ := List.getElem?_of_mem hb
    rw [List.getElem?_drop] at hi
    have hil := (List.getElem?_eq_some_iff.1 hi).1
    have hx := List.getElem?_eq_getElem (show cbP p L < L.length by omega)
    have hn := cbP_at p L _ hx
    have hpx : ltP p L[cbP p L] := by
      rcases ltP_total L[cbP p L] p with h | h | h
      · exact absurd h hn
      · exact absurd (h ▸ List.mem_of_getElem? hx) hp
      · exact h
    by_cases e : i = 0
    · subst e
      rw [Nat.add_zero, hx] at hi
      injection hi with hi
      rw [← hi]; exact hpx
    · exact ltP_trans hpx (srt_get h hx hi (by omega))
  rw [List.pairwise_append, List.pairwise_append]
  refine ⟨⟨h1, List.pairwise_singleton _ _, fun a ha' b hb' => ?_⟩, h2, fun a ha' b hb' => ?_⟩
  · rw [List.mem_singleton.1 hb']; exact ha a ha'
  · rcases List.mem_append.1 ha' with h | h
    · exact h3 a h b hb'
    · rw [List.mem_singleton.1 h]; exact hb b hb'
/-- Two lists in their order with the same pairs are one. -/
theorem srt_ext : ∀ {L M : List Pr}, SrtP L → SrtP M → (∀ x, x ∈ L ↔ x ∈ M) → L = M
  | [], [], _, _, _ => rfl
  | [], y :: M, _, _, h => absurd ((h y).2 (by simp)) (by simp)
  | x :: L, [], _, _, h => absurd ((h x).1 (by simp)) (by simp)
  | x :: L, y :: M, hL, hM, h => by
    have h1 := List.pairwise_cons.1 hL
    have h2 := List.pairwise_cons.1 hM
    have e : x = y := by
      rcases List.mem_cons.1 ((h x).1 (by simp)) with e | hx
      · exact e
      · rcases List.mem_cons.1 ((h y).2 (by simp)) with e | hy
        · exact e.symm
        · exact absurd (ltP_trans (h1.1 y hy) (h2.1 x hx)) (ltP_irrefl x)
    subst e
    rw [srt_ext h1.2 h2.2 fun z => ?_]
    constructor
    · intro hz
      rcases List.mem_cons.1 ((h z).1 (by simp [hz])) with rfl | hz'
      · exact absurd (h1.1 z hz) (ltP_irrefl z)
      · exact hz'
    · intro hz
      rcases List.mem_cons.1 ((h z).2 (by simp [hz])) with rfl | hz'
      · exact absurd (h2.1 z hz) (ltP_irrefl z)
      · exact hz'
theorem srt_erase {p : Pr} {L : List Pr} (h : SrtP L) : SrtP (L.erase p) := List.Pairwise.sublist List.erase_sublist h
end Go.Proofs.Ytpgnebhlnkoajaa

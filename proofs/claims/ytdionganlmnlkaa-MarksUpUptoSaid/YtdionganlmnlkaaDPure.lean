/-
  Deps, plain: references and edges; edges in their order; what an insertion leaves. Conditions: those of each theorem.
-/
import Derived.Test.YtdionganlmnlkaaGb
namespace Go.Proofs.Ytdionganlmnlkaa
open Go.Deep

/-- A reference. -/
structure Rf where
  m : Bool
  t : Int
  l : Int
  b : Int
  r : Int
  deriving DecidableEq
def KF : Knd Rf where
  t := 53
  size := 5
  bytes := 40
  enc x := [.bool x.m, .int .i64 x.t, .int .i64 x.l, .int .i64 x.b, .int .i64 x.r]
  len _ := rfl
  one x u hu := by
    simp at hu
    rcases hu with rfl | rfl | rfl | rfl | rfl <;> rfl
  pos := by omega
theorem info_kf : (Try.prog.info? KF.t).map (fun i => (i.zero, i.size, i.bytes)) = some (some (.agg #[.bool false, .int .i64 0, .int .i64 0, .int .i64 0, .int .i64 0]), KF.size, KF.bytes) := by kernel_rfl
/-- A cell that refers, and to what. -/
structure Ed where
  row : Int
  col : Int
  m : Bool
  t : Int
  l : Int
  b : Int
  r : Int
  deriving DecidableEq
def KD : Knd Ed where
  t := 55
  size := 7
  bytes := 56
  enc x := [.int .i64 x.row, .int .i64 x.col, .bool x.m, .int .i64 x.t, .int .i64 x.l, .int .i64 x.b, .int .i64 x.r]
  len _ := rfl
  one x u hu := by
    simp at hu
    rcases hu with rfl | rfl | rfl | rfl | rfl | rfl | rfl <;> rfl
  pos := by omega
theorem info_kd : (Try.prog.info? KD.t).map (fun i => (i.zero, i.size, i.bytes)) = some (some (.agg #[.int .i64 0, .int .i64 0, .bool false, .int .i64 0, .int .i64 0, .int .i64 0, .int .i64 0]), KD.size, KD.bytes) := by kernel_rfl
def eRf (e : Ed) : Rf := ⟨e.m, e.t, e.l, e.b, e.r⟩
def eCl (e : Ed) : Cl := ⟨e.row, e.col⟩
def mkE (c : Cl) (x : Rf) : Ed := ⟨c.row, c.col, x.m, x.t, x.l, x.b, x.r⟩
def bI (b : Bool) : Int := if b then 1 else 0
theorem bI_cases (b : Bool) : b = true ∧ bI b = 1 ∨ b = false ∧ bI b = 0 := by cases b <;> simp [bI]
theorem bI_inj {a b : Bool} (h : bI a = bI b) : a = b := by cases a <;> cases b <;> simp [bI] at h <;> rfl
/-- Does one stand ahead? -/
def ltE (x y : Ed) : Prop := x.row < y.row ∨ x.row = y.row ∧ (x.col < y.col ∨ x.col = y.col ∧ (x.t < y.t ∨ x.t = y.t ∧ (x.l < y.l ∨ x.l = y.l ∧ (x.b < y.b ∨ x.b = y.b ∧ (x.r < y.r ∨ x.r = y.r ∧ bI x.m < bI y.m)))))
instance (x y : Ed) : Decidable (ltE x y) := by unfold ltE; infer_instance
theorem ltE_irrefl (x : Ed) : ¬ ltE x x := by unfold ltE; omega
theorem ltE_trans {x y z : Ed} (h : ltE x y) (k : ltE y z) : ltE x z := by unfold ltE at *; omega
theorem ltE_total (x y : Ed) : ltE x y ∨ x = y ∨ ltE y x := by
  obtain ⟨a, b, m, c, d, e, f⟩ := x
  obtain ⟨a', b', m', c', d', e', f'⟩ := y
  rcases bI_cases m with ⟨rfl, h1⟩ | ⟨rfl, h1⟩ <;> rcases bI_cases m' with ⟨rfl, h2⟩ | ⟨rfl, h2⟩ <;> simp only [ltE, Ed.mk.injEq, h1, h2] <;> simp <;> omega
def SrtE (L : List Ed) : Prop := L.Pairwise ltE
/-- How many stand ahead. -/
def cbE (p : Ed) : List Ed → Nat
  | [] => 0
  | x :: l => if ltE x p then cbE p l + 1 else 0
theorem cbE_le (p : Ed) : ∀ l, cbE p l ≤ l.length
  | [] => Nat.le_refl _
  | x :: l => by
    have := cbE_le p l
    unfold cbE
    split
    · simp; omega
    · omega
theorem cbE_drop (p : Ed) {l : List Ed} {k : Nat} {x : Ed} (h : l[k]? = some x) : cbE p (l.drop k) = if ltE x p then cbE p (l.drop (k + 1)) + 1 else 0 := by
  obtain ⟨hk, e⟩ := List.getElem?_eq_some_iff.1 h
  rw [List.drop_eq_getElem_cons hk, e]
  rfl
def insE (p : Ed) (l : List Ed) : List Ed := l.take (cbE p l) ++ [p] ++ l.drop (cbE p l)
theorem cbE_lt (p : Ed) : ∀ (l : List Ed) (i : Nat) (x : Ed), l[i]? = some x → i < cbE p l → ltE x p
  | [], i, x, h, _ => by simp at h
  | y :: l, i, x, h, hi => by
    unfold cbE at hi
    split at hi
    · rename_i hy
      cases i with
      | zero =>
        simp at h
        rw [← h]; exact hy
      | succ i => exact cbE_lt p l i x (by simpa using h) (by omega)
    · omega
theorem cbE_at (p : Ed) : ∀ (l : List Ed) (x : Ed), l[cbE p l]? = some x → ¬ ltE x p
  | [], x, h => by simp at h
  | y :: l, x, h => by
    unfold cbE at h
    split at h
    · exact cbE_at p l x (by simpa using h)
    · rename_i hy
      simp at h
      rw [← h]; exact hy
theorem srte_get {L : List Ed} (h : SrtE L) {i j : Nat} {x y : Ed} (hi : L[i]? = some x) (hj : L[j]? = some y) (hij : i < j) : ltE x y := by
  obtain ⟨h1, rfl⟩ := List.getElem?_eq_some_iff.1 hi
  obtain ⟨h2, rfl⟩ := List.getElem?_eq_some_iff.1 hj
  exact List.pairwise_iff_getElem.1 h i j h1 h2 hij
/-- It is there just if it stands at its place. -/
theorem meme_at {L : List Ed} (h : SrtE L) (p : Ed) : p ∈ L ↔ L[cbE p L]? = some p := by
  refine ⟨fun hm => ?_, fun h => List.mem_of_getElem? h⟩
  obtain ⟨i, hi⟩ := List.getElem?_of_mem hm
  have hil := (List.getElem?_eq_some_iff.1 hi).1
  rcases Nat.lt_trichotomy i (cbE p L) with hlt | rfl | hgt
  · exact absurd (cbE_lt p L i p hi hlt) (ltE_irrefl p)
  · exact hi
  · have hx := List.getElem?_eq_getElem (show cbE p L < L.length by omega)
    have h1 := srte_get h hx hi hgt
    exact absurd h1 (cbE_at p L _ hx)
theorem mem_insE (p x : Ed) (L : List Ed) : x ∈ insE p L ↔ x = p ∨ x ∈ L := by
  unfold insE
  rw [List.mem_append, List.mem_append, List.mem_singleton]
  constructor
  · rintro ((h | h) | h)
    · exact .inr (List.mem_of_mem_take h)
    · exact .inl h
    · exact .inr (List.mem_of_mem_drop h)
  · rintro (h | h)
    · exact .inl (.inr h)
    · rw [← List.take_append_drop (cbE p L) L, List.mem_append] at h
      rcases h with h | h
      · exact .inl (.inl h)
      · exact .inr h
theorem srt_insE {p : Ed} {L : List Ed} (h : SrtE L) (hp : p ∉ L) : SrtE (insE p L) := by
  unfold SrtE insE
  have h0 : (L.take (cbE p L) ++ L.drop (cbE p L)).Pairwise ltE := by rw [List.take_append_drop]; exact h
  rw [List.pairwise_append] at h0
  obtain ⟨h1, h2, h3⟩ := h0
  have ha : ∀ a, a ∈ L.take (cbE p L) → ltE a p := fun a ha => by
    obtain ⟨i, hi⟩ := List.getElem?_of_mem ha
    rw [List.getElem?_take] at hi
    split at hi
    · rename_i hlt
      exact cbE_lt p L i a hi hlt
    · cases hi
  have hb : ∀ b, b ∈ L.drop (cbE p L) → ltE p b := fun b hb => by
    obtain ⟨i, hi⟩ := List.getElem?_of_mem hb
    rw [List.getElem?_drop] at hi
    have hil := (List.getElem?_eq_some_iff.1 hi).1
    have hx := List.getElem?_eq_getElem (show cbE p L < L.length by omega)
    have hn := cbE_at p L _ hx
    have hpx : ltE p L[cbE p L] := by
      rcases ltE_total L[cbE p L] p with h | h | h
      · exact absurd h hn
      · exact absurd (h ▸ List.mem_of_getElem? hx) hp
      · exact h
    by_cases e : i = 0
    · subst e
      rw [Nat.add_zero, hx] at hi
      injection hi with hi
      rw [← hi]; exact hpx
    · exact ltE_trans hpx (srte_get h hx hi (by omega))
  rw [List.pairwise_append, List.pairwise_append]
  refine ⟨⟨h1, List.pairwise_singleton _ _, fun a ha' b hb' => ?_⟩, h2, fun a ha' b hb' => ?_⟩
  · rw [List.mem_singleton.1 hb']; exact ha a ha'
  · rcases List.mem_append.1 ha' with h | h
    · exact h3 a h b hb'
    · rw [List.mem_singleton.1 h]; exact hb b hb'
/-- Two lists in their order with the same pairs are one. -/
theorem srte_ext : ∀ {L M : List Ed}, SrtE L → SrtE M → (∀ x, x ∈ L ↔ x ∈ M) → L = M
  | [], [], _, _, _ => rfl
  | [], y :: M, _, _, h => absurd ((h y).2 (by simp)) (by simp)
  | x :: L, [], _, _, h => absurd ((h x).1 (by simp)) (by simp)
  | x :: L, y :: M, hL, hM, h => by
    have h1 := List.pairwise_cons.1 hL
    have h2 := List.pairwise_cons.1 hM
    have e : x = y := by
      rcases List.mem_cons.1 ((h x).1 (by simp)) with e | hx
      · exact e
      · rcases List.mem_cons.1 ((h y).2 (by simp)) with e | hy
        · exact e.symm
        · exact absurd (ltE_trans (h1.1 y hy) (h2.1 x hx)) (ltE_irrefl x)
    subst e
    rw [srte_ext h1.2 h2.2 fun z => ?_]
    constructor
    · intro hz
      rcases List.mem_cons.1 ((h z).1 (by simp [hz])) with rfl | hz'
      · exact absurd (h1.1 z hz) (ltE_irrefl z)
      · exact hz'
    · intro hz
      rcases List.mem_cons.1 ((h z).2 (by simp [hz])) with rfl | hz'
      · exact absurd (h2.1 z hz) (ltE_irrefl z)
      · exact hz'
theorem srte_erase {p : Ed} {L : List Ed} (h : SrtE L) : SrtE (L.erase p) := List.Pairwise.sublist List.erase_sublist h
end Go.Proofs.Ytdionganlmnlkaa

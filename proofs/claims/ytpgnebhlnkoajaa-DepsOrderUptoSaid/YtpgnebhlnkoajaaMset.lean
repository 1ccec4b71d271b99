/-
  Own maps 'map[K]struct{}' as lists of what is in them. Over any program. Conditions: those of each theorem.
-/
import Derived.Test.YtpgnebhlnkoajaaGen
import Derived.Maps.OwnSet
import Derived.Maps.OwnOps
import Derived.Maps.RangeWalk
namespace Go.Proofs.Ytpgnebhlnkoajaa
open Go.ChangeShapes Go.WideShapes Go.ChangeAt Go.RowKit Go.Deep
open Go.Maps (Keyed)

/-- Block b is an own map whose keys are just these (V: how one lies; Rg: which have keys). -/
def MSet {α : Type} (P : Program) (k : TypeId) (V : α → Value) (Rg : α → Prop) (w : World) (b n : Nat) (L : List α) : Prop :=
  ∃ D : DataW Unit, w.ownsMap P k unitElem b n D ∧ (∀ x l, keyOf P k (V x) = some l → (Maps.has D l = true ↔ x ∈ L)) ∧ (∀ l, Maps.has D l = true → ∃ x, Rg x ∧ keyOf P k (V x) = some l)

section
variable {α : Type} {P : Program} {k : TypeId} {V : α → Value} {Rg : α → Prop} {w w' : World} {b n : Nat} {L : List α}
theorem MSet.lt (h : MSet P k V Rg w b n L) : b < w.heap.size := by
  obtain ⟨D, h, _⟩ := h
  exact h.lt
theorem MSet.kept {row : Option Nat} (h : MSet P k V Rg w b n L) (hg : w.grownBy w' row) (hne : some b ≠ row) : MSet P k V Rg w' b n L := by
  obtain ⟨D, h, h1, h2⟩ := h
  exact ⟨D, h.kept hg hne, h1, h2⟩
theorem MSet.below (h : MSet P k V Rg w b n L) (hb : Below w.heap.size w w') : MSet P k V Rg w' b n L := h.kept (row := none) (grown_of_below hb none) (by simp)
theorem MSet.mono (h : MSet P k V Rg w b n L) {n' : Nat} (hn : n ≤ n') : MSet P k V Rg w b n' L := by
  obtain ⟨D, h, h1, h2⟩ := h
  exact ⟨D, h.mono hn, h1, h2⟩
theorem MSet.made (P : Program) (k : TypeId) (V : α → Value) (Rg : α → Prop) (w : World) : MSet P k V Rg (w.alloc (.map #[] 0)) w.heap.size 0 [] :=
  ⟨.map [], World.ownsMap_made w P k unitElem, fun x l _ => by simp [Maps.has_eq], fun l h => by simp [Maps.has_eq] at h⟩
/-- Only as a set. -/
theorem MSet.ext (h : MSet P k V Rg w b n L) {M : List α} (e : ∀ x, x ∈ L ↔ x ∈ M) : MSet P k V Rg w b n M := by
  obtain ⟨D, h, h1, h2⟩ := h
  exact ⟨D, h, fun x l hl => (h1 x l hl).trans (e x), h2⟩
theorem MSet.has [DecidableEq α] (h : MSet P k V Rg w b n L) {x : α} {l : Lit} (hl : keyOf P k (V x) = some l) : ∃ D : DataW Unit, w.ownsMap P k unitElem b n D ∧ Maps.has D l = decide (x ∈ L) := by
  obtain ⟨D, h, h1, _⟩ := h
  refine ⟨D, h, ?_⟩
  have := h1 x l hl
  by_cases hm : x ∈ L
  · rw [this.2 hm, decide_eq_true hm]
  · rw [decide_eq_false hm]
    cases hb : Maps.has D l with
    | false => rfl
    | true => exact absurd (this.1 hb) hm

variable {ops : Array Oper} {rest : List Oper} {o : Oper} {a : Act} {Q : Exit → Act → World → Prop}
theorem wp_mset_has [DecidableEq α] (hg : o.guard = none) (m x : Operand) (t e : TypeId) (hop : o.op = Op.lookup t m x true) (K : Keyed P k) (ht : P.underlying t = some (.map k e)) (hz : (zeroValue e).run P w = .ok (.agg #[]) w)
    (h : MSet P k V Rg w b n L) (y : α) {l : Lit} (hm : a.eval m = .map (some b)) (hx : a.eval x = V y) (hl : keyOf P k (V y) = some l)
    (hK : wpList P ops Q rest (a.put o.dst (.tuple #[.agg #[], .bool (decide (y ∈ L))])) w) : wpList P ops Q (o :: rest) a w := by
  obtain ⟨D, hown, hd⟩ := h.has hl
  exact wpList_lookup_own_unit w hg m x t hop k e K ht hz b n D hm hown (V y) l hx hl (by rw [hd]; exact hK)
theorem mset_put (K : Keyed P k) (hV : ∀ x y, V x = V y → x = y) {D : DataW Unit} {x : α} {l : Lit} (hD : Maps.IsMap D) (h1 : ∀ x l, keyOf P k (V x) = some l → (Maps.has D l = true ↔ x ∈ L)) (hl : keyOf P k (V x) = some l) (d : DataW Unit) :
    ∀ y l', keyOf P k (V y) = some l' → (Maps.has (D.put l d) l' = true ↔ y ∈ x :: L) := by
  intro y l' hl'
  by_cases e : l' = l
  · subst e
    have : y = x := hV _ _ (K.inj hl' hl)
    subst this
    rw [Maps.has_put_same hD (K.key hl)]
    simp
  · rw [Maps.has_put_other e, h1 y l' hl']
    have : y ≠ x := by
      rintro rfl
      rw [hl] at hl'
      injection hl' with hl'
      exact e hl'.symm
    simp [this]
theorem wp_mset_put (hg : o.guard = none) (m x v : Operand) (t e : TypeId) (hop : o.op = Op.mapUpdate t m x v) (K : Keyed P k) (ht : P.underlying t = some (.map k e)) (hV : ∀ x y, V x = V y → x = y)
    (h : MSet P k V Rg w b n L) (hn : n < maxLen) (y : α) (hr : Rg y) {l : Lit} (hm : a.eval m = .map (some b)) (hx : a.eval x = V y) (hv : a.eval v = .agg #[]) (hl : keyOf P k (V y) = some l)
    (hK : ∀ w', MSet P k V Rg w' b (n + 1) (y :: L) → w.grownBy w' (some b) → wpList P ops Q rest (a.put o.dst undef) w') : wpList P ops Q (o :: rest) a w := by
  obtain ⟨D, hown, h1, h2⟩ := h
  refine wpList_mapUpdate_own w hg m x v t hop k e K ht unitElem b n D hm hown hn (V y) (.agg #[]) l hx hv hl (.agg []) [] unitElem_mk fun w' ho hg' => hK w' ⟨_, ho, mset_put K hV hown.isMap h1 hl _, fun l' hl' => ?_⟩ hg'
  by_cases e' : l' = l
  · subst e'
    exact ⟨y, hr, hl⟩
  · rw [Maps.has_put_other e'] at hl'
    exact h2 l' hl'
/-- The look-up's run, as an equation. -/
theorem MSet.look_run [DecidableEq α] (h : MSet P k V Rg w b n L) (K : Keyed P k) {t e : TypeId} (ht : P.underlying t = some (.map k e)) (hz : ∀ w, (zeroValue e).run P w = .ok (.agg #[]) w) (y : α) {l : Lit} (hl : keyOf P k (V y) = some l) :
    (Instr.lookup t (.map (some b)) (V y) true).run P w = .ok (.tuple #[.agg #[], .bool (decide (y ∈ L))]) w := by
  obtain ⟨D, hown, hd⟩ := h.has hl
  obtain ⟨v, ps, hrun, hv⟩ := hown.look_ok K ht (hz w) unitElem_mk hl
  obtain ⟨rfl, _⟩ := unitElem_inv hv
  rw [hrun, hd]
theorem MSet.put_run (h : MSet P k V Rg w b n L) (K : Keyed P k) {t e : TypeId} (ht : P.underlying t = some (.map k e)) (hV : ∀ x y, V x = V y → x = y) (hn : n < maxLen) (y : α) (hr : Rg y) {l : Lit} (hl : keyOf P k (V y) = some l) :
    ∃ w', (Instr.mapUpdate t (.map (some b)) (V y) (.agg #[])).run P w = .ok () w' ∧ MSet P k V Rg w' b (n + 1) (y :: L) ∧ w.grownBy w' (some b) := by
  obtain ⟨D, hown, h1, h2⟩ := h
  obtain ⟨w', hrun, ho, hg⟩ := hown.update K ht hn hl unitElem_mk
  refine ⟨w', hrun, ⟨_, ho, mset_put K hV hown.isMap h1 hl _, fun l' hl' => ?_⟩, hg⟩
  by_cases e' : l' = l
  · subst e'
    exact ⟨y, hr, hl⟩
  · rw [Maps.has_put_other e'] at hl'
    exact h2 l' hl'
theorem MSet.del_run [DecidableEq α] (h : MSet P k V Rg w b n L) (K : Keyed P k) {t e : TypeId} (ht : P.underlying t = some (.map k e)) (hV : ∀ x y, V x = V y → x = y) (y : α) {l : Lit} (hl : keyOf P k (V y) = some l) (ty : TypeId) :
    ∃ w', (Builtin.delete_ #[t, k] ty #[.map (some b), V y]).run P w = .ok (.tuple #[]) w' ∧ MSet P k V Rg w' b n (L.filter fun x => decide (x ≠ y)) ∧ w.grownBy w' (some b) := by
  obtain ⟨D, hown, h1, h2⟩ := h
  obtain ⟨w', hrun, ho, ht'⟩ := hown.drop K ht hl ty
  refine ⟨w', hrun, ⟨_, ho, fun x l' hl' => ?_, fun l' hl' => ?_⟩, ht'.grown⟩
  · rw [List.mem_filter, decide_eq_true_eq]
    by_cases e' : l' = l
    · subst e'
      have : x = y := hV _ _ (K.inj hl' hl)
      subst this
      rw [Maps.has_del_same]
      simp
    · rw [Maps.has_del_other e', h1 x l' hl']
      have : x ≠ y := by
        rintro rfl
        rw [hl] at hl'
        injection hl' with hl'
        exact e' hl'.symm
      simp [this]
  · by_cases e' : l' = l
    · subst e'
      rw [Maps.has_del_same] at hl'
      cases hl'
    · rw [Maps.has_del_other e'] at hl'
      exact h2 l' hl'
/-- None is left just where its length is zero. -/
theorem MSet.size (h : MSet P k V Rg w b n L) (K : Keyed P k) (hL : ∀ x, x ∈ L → ∃ l, keyOf P k (V x) = some l) : ∃ D : DataW Unit, w.ownsMap P k unitElem b n D ∧ (Maps.size D = 0 ↔ L = []) := by
  obtain ⟨D, hown, h1, h2⟩ := h
  refine ⟨D, hown, ?_⟩
  obtain ⟨es, rfl, _, hkey⟩ := hown.entries K
  rw [Maps.size_eq]
  constructor
  · intro h0
    have : es = [] := List.length_eq_zero_iff.1 h0
    subst this
    cases L with
    | nil => rfl
    | cons x L =>
      obtain ⟨l, hl⟩ := hL x (by simp)
      have := (h1 x l hl).2 (by simp)
      simp [Maps.has_eq] at this
  · rintro rfl
    cases es with
    | nil => rfl
    | cons p es =>
      have hs : Maps.has (.map (p :: es) : DataW Unit) p.1 = true := by
        rw [Maps.has_eq]
        simp [WideAt.sameKey_self (hkey p (by simp))]
      obtain ⟨x, _, hx⟩ := h2 _ hs
      have := (h1 x _ hx).1 hs
      simp at this
end
end Go.Proofs.Ytpgnebhlnkoajaa

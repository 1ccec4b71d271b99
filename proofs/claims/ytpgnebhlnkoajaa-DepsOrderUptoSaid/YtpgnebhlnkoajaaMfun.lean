/-
  Own maps whose elements are whatever values, as functions. Over any program. Conditions: those of each theorem.
-/
import Derived.Test.YtpgnebhlnkoajaaMset
namespace Go.Proofs.Ytpgnebhlnkoajaa
open Go.ChangeShapes Go.WideShapes Go.ChangeAt Go.RowKit Go.Deep
open Go.Maps (Keyed)

/-- An element reads as itself. -/
def heldE (v : Value) : Option (DataW Value × List MemPlace) := some (.held v, [])
def asD (o : Option Value) (z : DataW Value) : DataW Value := match o with
  | some v => .held v
  | none => z
/-- Block b is an own map that holds what f tells (V: how a key lies; Rg: which are keys). -/
def MFun {α : Type} (P : Program) (k : TypeId) (V : α → Value) (Rg : α → Prop) (w : World) (b n : Nat) (f : α → Option Value) : Prop :=
  ∃ D : DataW Value, w.ownsMap P k heldE b n D ∧ (∀ x l, keyOf P k (V x) = some l → ∀ z, D.atKey l z = asD (f x) z) ∧ (∀ l, Maps.has D l = true → ∃ x, Rg x ∧ keyOf P k (V x) = some l)

section
variable {α : Type} {P : Program} {k : TypeId} {V : α → Value} {Rg : α → Prop} {w w' : World} {b n : Nat} {f : α → Option Value}
theorem MFun.lt (h : MFun P k V Rg w b n f) : b < w.heap.size := by
  obtain ⟨D, h, _⟩ := h
  exact h.lt
theorem MFun.frm (h : MFun P k V Rg w b n f) {S : Nat → Prop} (hF : Frm S w w') (hn : ¬ S b) : MFun P k V Rg w' b n f := by
  obtain ⟨D, hown, h1, h2⟩ := h
  have hlt := hown.lt
  obtain ⟨es, clock, hb, F, hs, hD⟩ := hown
  exact ⟨D, ⟨es, clock, (hF.block b hlt hn).trans hb, F, hs, hD⟩, h1, h2⟩
theorem MFun.below (h : MFun P k V Rg w b n f) (hb : Below w.heap.size w w') : MFun P k V Rg w' b n f := h.frm (Frm.of_below (S := fun _ => False) hb) id
theorem MFun.mono (h : MFun P k V Rg w b n f) {n' : Nat} (hn : n ≤ n') : MFun P k V Rg w b n' f := by
  obtain ⟨D, h, h1, h2⟩ := h
  exact ⟨D, h.mono hn, h1, h2⟩
theorem MFun.made (P : Program) (k : TypeId) (V : α → Value) (Rg : α → Prop) (w : World) : MFun P k V Rg (w.alloc (.map #[] 0)) w.heap.size 0 (fun _ => none) :=
  ⟨.map [], World.ownsMap_made w P k heldE, fun x l _ z => rfl, fun l h => by simp [Maps.has_eq] at h⟩
theorem MFun.ty (h : MFun P k V Rg w b n f) {t : TypeId} {cs : Array Value} (hb : w.heap[b]? = some (.cells cs t (0, 0))) : False := by
  obtain ⟨D, ⟨es, clock, e, _⟩, _⟩ := h
  rw [e] at hb
  injection hb with hb
  cases hb
/-- m[k]. -/
theorem MFun.look_run (h : MFun P k V Rg w b n f) (K : Keyed P k) {t e : TypeId} (ht : P.underlying t = some (.map k e)) {z : Value} (hz : ∀ w, (zeroValue e).run P w = .ok z w) (y : α) {l : Lit} (hl : keyOf P k (V y) = some l) :
    (Instr.lookup t (.map (some b)) (V y) false).run P w = .ok ((f y).getD z) w := by
  obtain ⟨D, hown, h1, _⟩ := h
  obtain ⟨v, ps, hrun, hv⟩ := hown.lookup K ht (hz w) (zd := .held z) (zp := []) rfl hl
  rw [h1 y l hl] at hv
  rw [hrun]
  unfold heldE asD at hv
  cases hf : f y with
  | none => rw [hf] at hv; simp at hv; rw [hv.1]; rfl
  | some u => rw [hf] at hv; simp at hv; rw [hv.1]; rfl
theorem MFun.has {D : DataW Value} (h1 : ∀ x l, keyOf P k (V x) = some l → ∀ z, D.atKey l z = asD (f x) z) {x : α} {l : Lit} (hl : keyOf P k (V x) = some l) : Maps.has D l = (f x).isSome := by
  have h := h1 x l hl
  cases hf : f x with
  | none => rw [hf] at h; exact Maps.has_false_of_atKey h
  | some v => rw [hf] at h; exact Maps.has_true_of_atKey h
/-- v, ok := m[k]. -/
theorem MFun.look_ok (h : MFun P k V Rg w b n f) (K : Keyed P k) {t e : TypeId} (ht : P.underlying t = some (.map k e)) {z : Value} (hz : ∀ w, (zeroValue e).run P w = .ok z w) (y : α) {l : Lit} (hl : keyOf P k (V y) = some l) :
    (Instr.lookup t (.map (some b)) (V y) true).run P w = .ok (.tuple #[(f y).getD z, .bool (f y).isSome]) w := by
  obtain ⟨D, hown, h1, _⟩ := h
  obtain ⟨v, ps, hrun, hv⟩ := hown.look_ok K ht (hz w) (zd := .held z) (zp := []) rfl hl
  rw [h1 y l hl] at hv
  rw [hrun, MFun.has h1 hl]
  unfold heldE asD at hv
  cases hf : f y with
  | none => rw [hf] at hv; simp at hv; rw [hv.1]; rfl
  | some u => rw [hf] at hv; simp at hv; rw [hv.1]; rfl
/-- m[k] = v. -/
theorem MFun.put_run [DecidableEq α] (h : MFun P k V Rg w b n f) (K : Keyed P k) {t e : TypeId} (ht : P.underlying t = some (.map k e)) (hV : ∀ x y, V x = V y → x = y) (hn : n < maxLen) (y : α) (hr : Rg y) (u : Value) {l : Lit} (hl : keyOf P k (V y) = some l) :
    ∃ w', (Instr.mapUpdate t (.map (some b)) (V y) u).run P w = .ok () w' ∧ MFun P k V Rg w' b (n + 1) (fun x => if x = y then some u else f x) ∧ w.grownBy w' (some b) := by
  obtain ⟨D, hown, h1, h2⟩ := h
  obtain ⟨w', hrun, ho, hg⟩ := hown.update K ht hn hl (val := u) (d := .held u) (ps := []) rfl
  refine ⟨w', hrun, ⟨_, ho, fun x l' hl' z => ?_, fun l' hl' => ?_⟩, hg⟩
  · by_cases e' : l' = l
    · subst e'
      have : x = y := hV _ _ (K.inj hl' hl)
      subst this
      rw [Maps.atKey_put_same hown.isMap (K.key hl)]
      dsimp only
      rw [if_pos rfl]
      rfl
    · have : x ≠ y := by
        rintro rfl
        rw [hl] at hl'
        injection hl' with hl'
        exact e' hl'.symm
      rw [Maps.atKey_put_other e']
      dsimp only
      rw [if_neg this]
      exact h1 x l' hl' z
  · by_cases e' : l' = l
    · subst e'
      exact ⟨y, hr, hl⟩
    · rw [Maps.has_put_other e'] at hl'
      exact h2 l' hl'
/-- delete(m, k). -/
theorem MFun.del_run [DecidableEq α] (h : MFun P k V Rg w b n f) (K : Keyed P k) {t e : TypeId} (ht : P.underlying t = some (.map k e)) (hV : ∀ x y, V x = V y → x = y) (y : α) {l : Lit} (hl : keyOf P k (V y) = some l) (ty : TypeId) :
    ∃ w', (Builtin.delete_ #[t, k] ty #[.map (some b), V y]).run P w = .ok (.tuple #[]) w' ∧ MFun P k V Rg w' b n (fun x => if x = y then none else f x) ∧ w.grownBy w' (some b) := by
  obtain ⟨D, hown, h1, h2⟩ := h
  obtain ⟨w', hrun, ho, ht'⟩ := hown.drop K ht hl ty
  refine ⟨w', hrun, ⟨_, ho, fun x l' hl' z => ?_, fun l' hl' => ?_⟩, ht'.grown⟩
  · by_cases e' : l' = l
    · subst e'
      have : x = y := hV _ _ (K.inj hl' hl)
      subst this
      rw [Maps.atKey_del_same]
      dsimp only
      rw [if_pos rfl]
      rfl
    · have : x ≠ y := by
        rintro rfl
        rw [hl] at hl'
        injection hl' with hl'
        exact e' hl'.symm
      rw [Maps.atKey_del_other e']
      dsimp only
      rw [if_neg this]
      exact h1 x l' hl' z
  · by_cases e' : l' = l
    · subst e'
      rw [Maps.has_del_same] at hl'
      cases hl'
    · rw [Maps.has_del_other e'] at hl'
      exact h2 l' hl'

variable {ops : Array Oper} {rest : List Oper} {o : Oper} {a : Act} {Q : Exit → Act → World → Prop}
/-- The next entry of a range. -/
theorem wp_mfun_next (hg : o.guard = none) (it : Operand) (hop : o.op = Op.next it false) (K : Keyed P k) (r cnt : Nat) (D : DataW Value) (left : Lit → Bool)
    (hD : ∀ x l, keyOf P k (V x) = some l → ∀ z, D.atKey l z = asD (f x) z) (hk : ∀ l, Maps.has D l = true → ∃ x, Rg x ∧ keyOf P k (V x) = some l) (hsub : ∀ l, left l = true → Maps.has D l = true)
    (hit : a.eval it = .pointer (some ⟨r, 0, none⟩)) (h : w.ranges P k heldE b r n D left cnt)
    (hDone : cnt = 0 → (∀ kl, left kl = false) → wpList P ops Q rest (a.put o.dst (.tuple #[.bool false])) w)
    (hMore : ∀ (x : α) (v : Value) (kl : Lit) (w' : World) (cnt' : Nat), Rg x → keyOf P k (V x) = some kl → left kl = true → f x = some v → w'.ranges P k heldE b r n D (fun z => left z && !z.sameKey kl) cnt' → cnt' < cnt →
      w.grownBy w' (some r) → w'.heap.size = w.heap.size → (Instr.entry (.pointer (some ⟨r, 0, none⟩))).run P w' = .ok (.tuple #[V x, v]) w' →
      wpList P ops Q rest (a.put o.dst (.tuple #[.bool true, V x, v])) w') :
    wpList P ops Q (o :: rest) a w := by
  refine wpList_next_ranges w hg it hop k K heldE (fun v : Value => v) (fun v : Value => v) (fun key kl _ => ⟨key, rfl⟩) (fun v y _ => ⟨v, rfl⟩) b r n D left cnt hit h hDone ?_
  intro x c kl y w' cnt' hkx hlk hRc hat hrg hlt hgr hsz hen
  obtain ⟨p, hp0, hp⟩ := hk kl (hsub kl hlk)
  have hxp : x = V p := K.inj hkx hp
  subst hxp
  unfold heldE at hRc
  injection hRc with hRc
  have hfp : f p = some c := by
    have h3 := hat .nil
    rw [hD p kl hp, ← hRc] at h3
    unfold asD at h3
    cases hf : f p with
    | none => rw [hf] at h3; cases h3
    | some u => rw [hf] at h3; injection h3 with h3; rw [h3]
  exact hMore p c kl w' cnt' hp0 hp hlk hfp hrg hlt hgr hsz hen
end
end Go.Proofs.Ytpgnebhlnkoajaa

/-
  Deps: contract of Compact. Conditions: those of each theorem.
-/
import Derived.Test.YtdionganlmnlkaaDSort
import Derived.Test.YtdionganlmnlkaaGb
import Derived.Lib.SliceRun
namespace Go.Proofs.Ytdionganlmnlkaa
open Go.ChangeShapes Go.WideShapes Go.ChangeAt Go.RowKit Go.Deep
attribute [local go_sem] Cls

/-- A list without what stands beside its like. -/
def cptS (out : List Cl) (x : Cl) : List Cl := if out.getLast? = some x then out else out ++ [x]
def cpt (L : List Cl) : List Cl := L.foldl cptS []
theorem cpt_take {L : List Cl} {k : Nat} {x : Cl} (h : L[k]? = some x) : cpt (L.take (k + 1)) = cptS (cpt (L.take k)) x := by
  unfold cpt
  rw [List.take_add_one, h, List.foldl_append]
  rfl
theorem cptS_last (out : List Cl) (x : Cl) : (cptS out x).getLast? = some x := by
  unfold cptS
  split
  · assumption
  · simp
theorem cpt_last {L : List Cl} {k : Nat} {x : Cl} (h : L[k]? = some x) : (cpt (L.take (k + 1))).getLast? = some x := by rw [cpt_take h, cptS_last]
theorem cpt_len {L : List Cl} : ∀ k, (cpt (L.take k)).length ≤ k
  | 0 => by simp [cpt]
  | k + 1 => by
    have ih := cpt_len (L := L) k
    cases hx : L[k]? with
    | none => rw [show L.take (k + 1) = L.take k by rw [List.take_add_one, hx]; simp]; omega
    | some x =>
      rw [cpt_take hx]
      unfold cptS
      split
      · omega
      · simp; omega
theorem mem_cpt (x : Cl) : ∀ (L out : List Cl), x ∈ L.foldl cptS out ↔ x ∈ out ∨ x ∈ L
  | [], out => by simp
  | y :: L, out => by
    rw [List.foldl_cons, mem_cpt x L, List.mem_cons]
    unfold cptS
    split
    · rename_i h
      have hy := List.mem_of_getLast? h
      constructor
      · rintro (h1 | h1)
        · exact .inl h1
        · exact .inr (.inr h1)
      · rintro (h1 | rfl | h1)
        · exact .inl h1
        · exact .inl hy
        · exact .inr h1
    · rw [List.mem_append, List.mem_singleton, or_assoc]
/-- Of a list in its order: each once. -/
theorem cpt_srt : ∀ (L out : List Cl), L.Pairwise (fun x y => ¬ ltC y x) → SrtC out → (∀ x, x ∈ out → ∀ y, y ∈ L → ¬ ltC y x) → SrtC (L.foldl cptS out)
  | [], out, _, h, _ => h
  | y :: L, out, h1, h2, h3 => by
    rw [List.pairwise_cons] at h1
    rw [List.foldl_cons]
    refine cpt_srt L _ h1.2 ?_ (fun x hx z hz => ?_)
    · unfold cptS
      split
      · exact h2
      · rename_i hl
        rw [SrtC, List.pairwise_append]
        refine ⟨h2, by simp, fun a ha b hb => ?_⟩
        rw [List.mem_singleton.1 hb]
        rcases ltC_total a y with h4 | h4 | h4
        · exact h4
        · exfalso
          subst h4
          obtain ⟨ys, z, rfl⟩ : ∃ ys z, out = ys ++ [z] := by
            rcases List.eq_nil_or_concat out with e | ⟨ys, z, e⟩
            · rw [e] at ha; cases ha
            · exact ⟨ys, z, by rw [e]; simp⟩
          rw [List.getLast?_append] at hl
          have hza : z ≠ a := fun e => hl (by simp [e])
          rw [List.mem_append] at ha
          rcases ha with ha | ha
          · rw [SrtC, List.pairwise_append] at h2
            have := h2.2.2 a ha z (by simp)
            exact h3 z (by simp) a (by simp) this
          · exact hza (List.mem_singleton.1 ha).symm
        · exact absurd h4 (h3 a ha y (by simp))
    · have hm := (mem_cpt x [y] out).1 (by simpa using hx)
      rcases hm with hm | hm
      · exact h3 x hm z (by simp [hz])
      · rw [List.mem_singleton.1 hm]
        exact h1.1 z hz
theorem blk_setCells {g : Nat} {t : TypeId} : ∀ (vs : List Value) (o : Nat) (w : World) (cur : Array Value), Blk w g t cur → o + vs.length ≤ cur.size → ∃ cur', Blk (w.setCells g o vs) g t cur' ∧ cur'.size = cur.size ∧ (∀ j, j < o → cur'[j]? = cur[j]?) ∧ w.grownBy (w.setCells g o vs) (some g)
  | [], o, w, cur, h, _ => ⟨cur, h, rfl, fun _ _ => rfl, grown_refl w _⟩
  | v :: vs, o, w, cur, h, hs => by
    obtain ⟨cur', h1, h2, h3, h4⟩ := blk_setCells vs (o + 1) _ _ (h.put o v) (by simp at hs ⊢; omega)
    refine ⟨cur', h1, by simpa using h2, fun j hj => ?_, grown_trans (grown_set (grown_refl w _) (.inl rfl) v) h4⟩
    rw [h3 j (by omega), Array.getElem?_setIfInBounds_ne (by omega)]
theorem run_clear_own {P : Program} {w : World} {t e ty : TypeId} {z : Value} (ht : P.underlying t = some (.slice e)) (hv : ∀ w, (zeroValue e).run P w = .ok z w) (h1 : ∀ u ∈ z.cells.toList, u.oneCell' = true) {g o n c : Nat} {u : TypeId} {cur : Array Value} (h : Blk w g u cur) (hs : o + n * z.cells.size ≤ cur.size) :
    ∃ w' cur', (Builtin.clear_ #[t] ty #[.slice (some ⟨g, o, none⟩) n c]).run P w = .ok (.tuple #[]) w' ∧ Blk w' g u cur' ∧ cur'.size = cur.size ∧ (∀ j, j < o → cur'[j]? = cur[j]?) ∧ w.grownBy w' (some g) := by
  cases n with
  | zero => exact ⟨w, cur, by simp [Builtin.clear_, run_underlying ht], h, rfl, fun _ _ => rfl, grown_refl w _⟩
  | succ n =>
    have hl : (Builtin.zeroCells z.cells (n + 1)).toList.length = (n + 1) * z.cells.size := by simp [size_zeroCells]
    have hst := run_storeCells_cells (P := P) g o (Builtin.zeroCells z.cells (n + 1)).toList 0 w (fun j hj => by
      rw [Nat.add_zero, h.rd, Array.getElem?_eq_getElem (by rw [hl] at hj; omega)]
      rfl) (fun j hj => h.fz _) (fun v hv' => by
      simp [Builtin.zeroCells] at hv'
      obtain ⟨i, hi, rfl⟩ := hv'
      have hp : 0 < z.cells.size := by
        rcases Nat.eq_zero_or_pos z.cells.size with h0 | h0
        · rw [h0] at hi; simp at hi
        · exact h0
      have hm : i % z.cells.size < z.cells.size := Nat.mod_lt _ hp
      refine h1 _ ?_
      rw [getElem!_pos z.cells _ hm]
      simp)
    simp only [Nat.add_zero] at hst
    obtain ⟨cur', h2, h3, h4, h5⟩ := blk_setCells (Builtin.zeroCells z.cells (n + 1)).toList o w cur h (by rw [hl]; exact hs)
    exact ⟨_, cur', by simp [Builtin.clear_, run_underlying ht, hv, hst], h2, h3, h4, h5⟩
end Go.Proofs.Ytdionganlmnlkaa

/-
  Deps: sorts of cells and of edges. Conditions: those of each theorem.
-/
import Derived.Test.YtdionganlmnlkaaDCmp
import Derived.Test.YtdionganlmnlkaaGb
import Derived.Test.YtdionganlmnlkaaGp
namespace Go.Proofs.Ytdionganlmnlkaa
open Go.ChangeShapes Go.WideShapes Go.ChangeAt Go.RowKit Go.Deep Go.Sort Go.Lib

instance : Inhabited Ed := ⟨⟨0, 0, false, 0, 0, 0, 0⟩⟩
theorem lays_order (blk off size : Nat) (w : World) : CmpLays Try.prog 49 #[] KC.enc 2 cellI blk off size w :=
  fun _ _ _ _ x y => order_any x.row x.col y.row y.col _
theorem ltOf_ed (x y : Ed) : ltOf edI x y = decide (ltE x y) := by
  unfold ltOf
  exact decide_eq_decide.2 (edI_lt x y)
theorem swo_ed : SWO (ltOf edI) where
  irrefl x := by rw [ltOf_ed]; exact decide_eq_false (ltE_irrefl x)
  trans x y z h1 h2 := by
    rw [ltOf_ed] at *
    exact decide_eq_true (ltE_trans (of_decide_eq_true h1) (of_decide_eq_true h2))
  ntrans x y z h1 h2 := by
    rw [ltOf_ed] at *
    have h1 := of_decide_eq_false h1
    have h2 := of_decide_eq_false h2
    refine decide_eq_false fun h => ?_
    rcases ltE_total x y with h3 | h3 | h3
    · exact h1 h3
    · subst h3; exact h2 h
    · exact h2 (ltE_trans h3 h)
theorem sortC_any {w : World} {B : Nat} {v : Value} {L : List Cl} (h : OW KC w B v L) (hl : L.length < 4611686018427387904) :
    Calls Try.prog 48 #[v, .func (.func 49) #[] #[]] w fun e w' => e = .returned (.tuple #[]) ∧ ∃ M, OW KC w' B v M ∧ M.Perm L ∧ M.Pairwise (fun x y => ¬ ltC y x) ∧ w.grownBy w' v.ownBlock := by
  obtain ⟨A, c, rfl, hc, hcm, hLi, hA⟩ := h.see
  rcases hA with ⟨rfl, rfl, rfl⟩ | ⟨g, cur, rfl, hg1, hg2, _⟩
  · have hcon := AnyF.slices_SortFunc_none sortCell none 0 (.func (.func 49) #[] #[]) w
    change Calls Try.prog 48 _ _ _ at hcon
    refine hcon.mono fun e w' ⟨he, hw⟩ => ⟨he, [], by rw [hw]; exact h, List.Perm.refl _, List.Pairwise.nil, by rw [hw]; exact grown_refl w _⟩
  · have eg : ∀ args w, (callFunc 49 args).run Try.prog w = .ok (.enter 49 args) w := enters_of Try.func49 (by kernel_rfl) rfl
    have hcon := AnyQ.slices_SortFunc_total sortCell 2 Try.isAgg32 Try.sizeOf32 KC.enc KC.len KC.one cellI swo_cell 49 #[] g 0 c L.toArray w eg (lays_order g 0 _ w) (ow_holds h) hg2.lt (by simpa using hl)
      (fun x y h1 h2 => by
        rw [ltOf_cell] at h1 h2
        rcases ltC_total x y with h3 | h3 | h3
        · exact absurd h3 (of_decide_eq_false h1)
        · exact h3
        · exact absurd h3 (of_decide_eq_false h2))
    change Calls Try.prog 48 _ _ _ at hcon
    refine hcon.mono fun e w' ⟨he, n, os, hw⟩ => ⟨he, L.mergeSort (fun x y => !(ltOf cellI) y x), ?_⟩
    have hp := List.mergeSort_perm L (fun x y => !(ltOf cellI) y x)
    obtain ⟨h1, h2⟩ := ow_sorted (n := n) (os := os) h hp.length_eq
    refine ⟨by rw [hw]; exact h1, hp, ?_, by rw [hw]; exact h2⟩
    have hs := List.pairwise_mergeSort (le := fun x y => !(ltOf cellI) y x) (fun a b c h1 h2 => by
      simp only [ltOf_cell, Bool.not_eq_true', decide_eq_false_iff_not] at *
      intro h3
      rcases ltC_total b a with h4 | h4 | h4
      · exact h1 h4
      · subst h4; exact h2 h3
      · exact h2 (ltC_trans h3 h4)) (fun a b => by
      simp only [ltOf_cell, Bool.or_eq_true, Bool.not_eq_true', decide_eq_false_iff_not]
      rcases ltC_total a b with h4 | h4 | h4
      · exact .inl fun h5 => ltC_irrefl _ (ltC_trans h4 h5)
      · subst h4; exact .inl (ltC_irrefl _)
      · exact .inr fun h5 => ltC_irrefl _ (ltC_trans h4 h5)) L
    exact hs.imp fun {a b} h1 => by
      simp only [ltOf_cell, Bool.not_eq_true', decide_eq_false_iff_not] at h1
      exact h1
theorem srtE_of {L : List Ed} (h : L.Pairwise (fun x y => ¬ ltE y x)) (hn : L.Nodup) : SrtE L := by
  refine List.Pairwise.imp₂ (fun a b h1 h2 => ?_) h hn
  rcases ltE_total a b with h4 | h4 | h4
  · exact h4
  · exact absurd h4 h2
  · exact absurd h4 h1
end Go.Proofs.Ytdionganlmnlkaa

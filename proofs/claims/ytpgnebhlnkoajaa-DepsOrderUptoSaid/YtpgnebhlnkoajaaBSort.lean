/-
  Bands: the sort of edges. Conditions: the list holds each once, below 2^62 of them.
-/
import Derived.Test.YtpgnebhlnkoajaaBCl
import Derived.Test.YtpgnebhlnkoajaaOlSort
import Derived.Test.YtpgnebhlnkoajaaBLay
namespace Go.Proofs.Ytpgnebhlnkoajaa
open Go.ChangeShapes Go.WideShapes Go.ChangeAt Go.RowKit Go.Deep Go.Sort Go.Lib

instance : Inhabited Pr := ⟨⟨0, 0, 0, 0, 0, 0⟩⟩
theorem ltOf_edge (x y : Pr) : ltOf edgeI x y = decide (ltP x y) := by
  unfold ltOf
  exact decide_eq_decide.2 (edgeI_lt x y)
theorem swo_edge : SWO (ltOf edgeI) where
  irrefl x := by rw [ltOf_edge]; exact decide_eq_false (ltP_irrefl x)
  trans x y z h1 h2 := by
    rw [ltOf_edge] at *
    exact decide_eq_true (ltP_trans (of_decide_eq_true h1) (of_decide_eq_true h2))
  ntrans x y z h1 h2 := by
    rw [ltOf_edge] at *
    have h1 := of_decide_eq_false h1
    have h2 := of_decide_eq_false h2
    refine decide_eq_false fun h => ?_
    rcases ltP_total x y with h3 | h3 | h3
    · exact h1 h3
    · subst h3; exact h2 h
    · exact h2 (ltP_trans h3 h)
theorem lays_edge (blk off size : Nat) (w : World) : CmpLays Try.prog 54 #[] KE.enc 7 edgeI blk off size w :=
  fun _ _ _ _ x y => close_any x.row x.col x.t x.l x.b x.r y.row y.col y.t y.l y.b y.r _
theorem sort_edges {w : World} {B : Nat} {v : Value} {L : List Pr} (h : OL KE w B v L) (hnd : L.Nodup) (hl : L.length < 4611686018427387904) :
    Calls Try.prog 51 #[v, .func (.func 54) #[] #[]] w fun e w' => e = .returned (.tuple #[]) ∧ ∃ M, OL KE w' B v M ∧ M.length = L.length ∧ SrtP M ∧ (∀ x, x ∈ M ↔ x ∈ L) ∧ w.grownBy w' v.ownBlock := by
  obtain ⟨A, c, rfl, hc, hcm, hLi, hA⟩ := h.see
  rcases hA with rfl | ⟨g, rfl, hg1, hg2⟩
  · obtain ⟨e1, e2⟩ := ol_none h
    have hL : L = [] := List.length_eq_zero_iff.1 e1
    subst hL
    have hcon := AnyF.slices_SortFunc_none sortEdge none c (.func (.func 54) #[] #[]) w
    change Calls Try.prog 51 _ _ _ at hcon
    refine hcon.mono fun e w' ⟨he, hw⟩ => ⟨he, [], by rw [hw]; exact h, rfl, List.Pairwise.nil, fun x => Iff.rfl, by rw [hw]; exact grown_refl w _⟩
  · have eg : ∀ args w, (callFunc 54 args).run Try.prog w = .ok (.enter 54 args) w := enters_of Try.func54 (by kernel_rfl) rfl
    have hcon := AnyQ.slices_SortFunc_total sortEdge 7 Try.isAgg51 Try.sizeOf51 KE.enc KE.len KE.one edgeI swo_edge 54 #[] g 0 c L.toArray w eg (lays_edge g 0 _ w) (ol_holds h) hg2 (by simpa using hl)
      (fun x y h1 h2 => by
        rw [ltOf_edge] at h1 h2
        rcases ltP_total x y with h3 | h3 | h3
        · exact absurd h3 (of_decide_eq_false h1)
        · exact h3
        · exact absurd h3 (of_decide_eq_false h2))
    change Calls Try.prog 51 _ _ _ at hcon
    refine hcon.mono fun e w' ⟨he, n, os, hw⟩ => ⟨he, L.mergeSort (fun x y => !(ltOf edgeI) y x), ?_⟩
    have hp := List.mergeSort_perm L (fun x y => !(ltOf edgeI) y x)
    obtain ⟨h1, h2⟩ := ol_sorted (n := n) (os := os) h hp.length_eq
    refine ⟨by rw [hw]; exact h1, hp.length_eq, ?_, fun x => hp.mem_iff, by rw [hw]; exact h2⟩
    have hs := List.pairwise_mergeSort (le := fun x y => !(ltOf edgeI) y x) (fun a b c h1 h2 => by
      simp only [ltOf_edge, Bool.not_eq_true', decide_eq_false_iff_not] at *
      intro h3
      rcases ltP_total b a with h4 | h4 | h4
      · exact h1 h4
      · subst h4; exact h2 h3
      · exact h2 (ltP_trans h3 h4)) (fun a b => by
      simp only [ltOf_edge, Bool.or_eq_true, Bool.not_eq_true', decide_eq_false_iff_not]
      rcases ltP_total a b with h4 | h4 | h4
      · exact .inl fun h5 => ltP_irrefl _ (ltP_trans h4 h5)
      · subst h4; exact .inl (ltP_irrefl _)
      · exact .inr fun h5 => ltP_irrefl _ (ltP_trans h4 h5)) L
    have hn : (L.mergeSort (fun x y => !(ltOf edgeI) y x)).Nodup := hp.nodup_iff.2 hnd
    refine List.Pairwise.imp₂ (fun a b h1 h2 => ?_) hs hn
    simp only [ltOf_edge, Bool.not_eq_true', decide_eq_false_iff_not] at h1
    rcases ltP_total a b with h4 | h4 | h4
    · exact h4
    · exact absurd h4 h2
    · exact absurd h4 h1
end Go.Proofs.Ytpgnebhlnkoajaa

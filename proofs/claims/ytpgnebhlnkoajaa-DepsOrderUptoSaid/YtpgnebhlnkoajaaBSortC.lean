/-
  Bands: the sort of cells. Conditions: the list holds each once, below 2^62 of them.
-/
import Derived.Test.YtpgnebhlnkoajaaBSort
namespace Go.Proofs.Ytpgnebhlnkoajaa
open Go.ChangeShapes Go.WideShapes Go.ChangeAt Go.RowKit Go.Deep Go.Sort Go.Lib

instance : Inhabited Cl := ⟨⟨0, 0⟩⟩
/-- The order of cells. -/
def ltC (x y : Cl) : Prop := x.row < y.row ∨ x.row = y.row ∧ x.col < y.col
instance (x y : Cl) : Decidable (ltC x y) := by unfold ltC; infer_instance
theorem ltC_irrefl (x : Cl) : ¬ ltC x x := by unfold ltC; omega
theorem ltC_trans {x y z : Cl} (h1 : ltC x y) (h2 : ltC y z) : ltC x z := by unfold ltC at *; omega
theorem ltC_total (x y : Cl) : ltC x y ∨ x = y ∨ ltC y x := by
  obtain ⟨a, b⟩ := x
  obtain ⟨c, d⟩ := y
  simp only [ltC, Cl.mk.injEq]
  omega
abbrev SrtC (L : List Cl) : Prop := L.Pairwise ltC
def cellI (x y : Cl) : Int := rowI x.row x.col y.row y.col
theorem cellI_lt (x y : Cl) : cellI x y < 0 ↔ ltC x y := by
  unfold cellI rowI ltC
  have hn : ¬ orI [] < 0 := by decide
  simp only [(or_neg _ _).1, (cmp_neg _ _).1, (cmp_neg _ _).2, hn]
  simp only [and_false, or_false]
theorem srtC_ext : ∀ {L M : List Cl}, SrtC L → SrtC M → (∀ x, x ∈ L ↔ x ∈ M) → L = M
  | [], [], _, _, _ => rfl
  | [], y :: M, _, _, h => absurd ((h y).2 (by simp)) (by simp)
  | x :: L, [], _, _, h => absurd ((h x).1 (by simp)) (by simp)
  | x :: L, y :: M, h1, h2, h => by
    rw [SrtC, List.pairwise_cons] at h1 h2
    have hxy : x = y := by
      rcases List.mem_cons.1 ((h x).1 (by simp)) with e | e
      · exact e
      · rcases List.mem_cons.1 ((h y).2 (by simp)) with e' | e'
        · exact e'.symm
        · exact absurd (ltC_trans (h1.1 y e') (h2.1 x e)) (ltC_irrefl x)
    subst hxy
    rw [srtC_ext h1.2 h2.2 (fun z => by
      have hz := h z
      rw [List.mem_cons, List.mem_cons] at hz
      refine ⟨fun hm => ?_, fun hm => ?_⟩
      · rcases hz.1 (.inr hm) with e | e
        · subst e; exact absurd (h1.1 z hm) (ltC_irrefl z)
        · exact e
      · rcases hz.2 (.inr hm) with e | e
        · subst e; exact absurd (h2.1 z hm) (ltC_irrefl z)
        · exact e)]
theorem clipc_any (A : Option Addr) (n c : Nat) (w : World) (hc : n ≤ c) :
    Calls Try.prog 46 #[.slice A n c] w fun e w' => e = .returned (.slice A n n) ∧ w = w' := by
  cases A with
  | none =>
    go_enter Try.func46, Try.ntmps46
    go_wp2_with fail
    go_ret
    exact ⟨rfl, rfl⟩
  | some a =>
    obtain ⟨g, off, sp⟩ := a
    go_enter Try.func46, Try.ntmps46
    go_wp2_with fail
    go_ret
    exact ⟨rfl, rfl⟩

theorem ltOf_cell (x y : Cl) : ltOf cellI x y = decide (ltC x y) := by
  unfold ltOf
  exact decide_eq_decide.2 (cellI_lt x y)
theorem swo_cell : SWO (ltOf cellI) where
  irrefl x := by rw [ltOf_cell]; exact decide_eq_false (ltC_irrefl x)
  trans x y z h1 h2 := by
    rw [ltOf_cell] at *
    exact decide_eq_true (ltC_trans (of_decide_eq_true h1) (of_decide_eq_true h2))
  ntrans x y z h1 h2 := by
    rw [ltOf_cell] at *
    have h1 := of_decide_eq_false h1
    have h2 := of_decide_eq_false h2
    refine decide_eq_false fun h => ?_
    rcases ltC_total x y with h3 | h3 | h3
    · exact h1 h3
    · subst h3; exact h2 h
    · exact h2 (ltC_trans h3 h)
theorem lays_cell (blk off size : Nat) (w : World) : CmpLays Try.prog 45 #[] KC.enc 2 cellI blk off size w :=
  fun _ _ _ _ x y => row_any x.row x.col y.row y.col _
theorem sort_cells {w : World} {B : Nat} {v : Value} {L : List Cl} (h : OL KC w B v L) (hnd : L.Nodup) (hl : L.length < 4611686018427387904) :
    Calls Try.prog 34 #[v, .func (.func 45) #[] #[]] w fun e w' => e = .returned (.tuple #[]) ∧ ∃ M, OL KC w' B v M ∧ M.length = L.length ∧ SrtC M ∧ (∀ x, x ∈ M ↔ x ∈ L) ∧ w.grownBy w' v.ownBlock := by
  obtain ⟨A, c, rfl, hc, hcm, hLi, hA⟩ := h.see
  rcases hA with rfl | ⟨g, rfl, hg1, hg2⟩
  · obtain ⟨e1, e2⟩ := ol_none h
    have hL : L = [] := List.length_eq_zero_iff.1 e1
    subst hL
    have hcon := AnyF.slices_SortFunc_none sortCell none c (.func (.func 45) #[] #[]) w
    change Calls Try.prog 34 _ _ _ at hcon
    refine hcon.mono fun e w' ⟨he, hw⟩ => ⟨he, [], by rw [hw]; exact h, rfl, List.Pairwise.nil, fun x => Iff.rfl, by rw [hw]; exact grown_refl w _⟩
  · have eg : ∀ args w, (callFunc 45 args).run Try.prog w = .ok (.enter 45 args) w := enters_of Try.func45 (by kernel_rfl) rfl
    have hcon := AnyQ.slices_SortFunc_total sortCell 2 Try.isAgg33 Try.sizeOf33 KC.enc KC.len KC.one cellI swo_cell 45 #[] g 0 c L.toArray w eg (lays_cell g 0 _ w) (ol_holds h) hg2 (by simpa using hl)
      (fun x y h1 h2 => by
        rw [ltOf_cell] at h1 h2
        rcases ltC_total x y with h3 | h3 | h3
        · exact absurd h3 (of_decide_eq_false h1)
        · exact h3
        · exact absurd h3 (of_decide_eq_false h2))
    change Calls Try.prog 34 _ _ _ at hcon
    refine hcon.mono fun e w' ⟨he, n, os, hw⟩ => ⟨he, L.mergeSort (fun x y => !(ltOf cellI) y x), ?_⟩
    have hp := List.mergeSort_perm L (fun x y => !(ltOf cellI) y x)
    obtain ⟨h1, h2⟩ := ol_sorted (n := n) (os := os) h hp.length_eq
    refine ⟨by rw [hw]; exact h1, hp.length_eq, ?_, fun x => hp.mem_iff, by rw [hw]; exact h2⟩
    have hs := List.pairwise_mergeSort (le := fun x y => !(ltOf cellI) y x) (fun a b c h1 h2 => by
      simp only [ltOf_cell, Bool.not_eq_true', decide_eq_false_iff_not] at *
      intro h3
      rcases ltC_total b a with h4 | h4 | h4
      · exact h1 h4
      · subst h4; exact h2 h3
      · exact h2 (ltC_trans h3 h4)) (fun a b => by
      simp only [ltOf_cell, Bool.or_eq_true, Bool.not_eq_true', decide_eq_false_iff_not]
      rcases ltC_total a b with h4 | h4 | h4
      · exact .inl fun h5 => ltC_irrefl _ (ltC_trans h4 h5)
      · subst h4; exact .inl (ltC_irrefl _)
      · exact .inr fun h5 => ltC_irrefl _ (ltC_trans h4 h5)) L
    have hn : (L.mergeSort (fun x y => !(ltOf cellI) y x)).Nodup := hp.nodup_iff.2 hnd
    refine List.Pairwise.imp₂ (fun a b h1 h2 => ?_) hs hn
    simp only [ltOf_cell, Bool.not_eq_true', decide_eq_false_iff_not] at h1
    rcases ltC_total a b with h4 | h4 | h4
    · exact h4
    · exact absurd h4 h2
    · exact absurd h4 h1
end Go.Proofs.Ytpgnebhlnkoajaa

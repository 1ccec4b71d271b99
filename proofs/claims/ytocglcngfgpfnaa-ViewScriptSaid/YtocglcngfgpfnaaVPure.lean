/-
  The program's views and the document's side by side: plain. Conditions: those of each theorem.
-/
import Derived.Test.YtocglcngfgpfnaaVRef3
namespace Go.Proofs.Ytocglcngfgpfnaa
open Go.ChangeShapes Go.WideShapes Go.ChangeAt Go.RowKit Go.Deep

structure LK (most : Int) (s : Nat → Vw) (cnt : Int) (L : List One) : Prop where
  all : ∀ x, x ∈ L → isOpen most s x.h = true ∧ s x.h.toNat = ⟨x.r, x.c, x.m, x.n⟩
  cov : ∀ h, isOpen most s h = true → ∃ x, x ∈ L ∧ x.h = h
  nd : L.Pairwise fun x y => x.h ≠ y.h
  num : (L.length : Int) = cnt

theorem LK.new (most : Int) : LK most F0 0 [] :=
  ⟨fun x hx => by simp at hx, fun h ho => by simp [isOpen, F0] at ho, List.Pairwise.nil, rfl⟩

section
variable {most : Int} {s : Nat → Vw} {cnt : Int} {L : List One}
theorem LK.no_ (h : LK most s cnt L) {hh : Int} (ho : isOpen most s hh = false) : ∀ x, x ∈ L → x.h ≠ hh := fun x hx e => by
  have := (h.all x hx).1
  rw [e, ho] at this
  cases this
theorem LK.yes_ (h : LK most s cnt L) {hh : Int} (ho : isOpen most s hh = true) : ∃ (i : Nat) (x : One), L[i]? = some x ∧ x.h = hh ∧ ∀ j y, j < i → L[j]? = some y → y.h ≠ hh :=
  first_of L (h.cov hh ho)
theorem LK.opened (h : LK most s cnt L) (n : Nat) (hn : (n : Int) < most) (hno : isOpen most s ((n : Int) + 1) = false) {r c m k : Int} (hm : m ≠ 0) :
    LK most (upd s (n + 1) ⟨r, c, m, k⟩) (cnt + 1) (L ++ [⟨(n : Int) + 1, r, c, m, k⟩]) := by
  have hne : ∀ x, x ∈ L → x.h ≠ (n : Int) + 1 := h.no_ hno
  refine ⟨fun x hx => ?_, fun hh ho => ?_, ?_, by simp [h.num]⟩
  · rcases List.mem_append.1 hx with hx | hx
    · have h1 := h.all x hx
      have h2 := isOpen_range h1.1
      have h3 := hne x hx
      refine ⟨?_, ?_⟩
      · rw [← h1.1]
        exact isOpen_upd_ne most s (n + 1) _ (by omega) (by omega)
      · rw [← h1.2]
        unfold upd
        rw [if_neg (by omega)]
    · simp at hx
      subst hx
      refine ⟨?_, ?_⟩
      · simp [isOpen, upd]
        omega
      · simp [upd]
  · by_cases he : hh = (n : Int) + 1
    · exact ⟨_, List.mem_append_right _ (List.mem_singleton.2 rfl), he.symm⟩
    · have h2 := isOpen_range ho
      rw [isOpen_upd_ne most s (n + 1) _ (by omega) (by omega)] at ho
      obtain ⟨x, hx, hxe⟩ := h.cov hh ho
      exact ⟨x, List.mem_append_left _ hx, hxe⟩
  · rw [List.pairwise_append]
    refine ⟨h.nd, List.pairwise_singleton _ _, fun x hx y hy => ?_⟩
    simp at hy
    subst hy
    exact hne x hx

theorem nd_at (h : L.Pairwise fun x y => x.h ≠ y.h) {i j : Nat} {x y : One} (hi : L[i]? = some x) (hj : L[j]? = some y) (he : x.h = y.h) : i = j := by
  rcases Nat.lt_trichotomy i j with hlt | heq | hlt
  · obtain ⟨h1, e1⟩ := List.getElem?_eq_some_iff.1 hi
    obtain ⟨h2, e2⟩ := List.getElem?_eq_some_iff.1 hj
    have := List.pairwise_iff_getElem.1 h i j h1 h2 hlt
    rw [e1, e2] at this
    exact absurd he this
  · exact heq
  · obtain ⟨h1, e1⟩ := List.getElem?_eq_some_iff.1 hi
    obtain ⟨h2, e2⟩ := List.getElem?_eq_some_iff.1 hj
    have := List.pairwise_iff_getElem.1 h j i h2 h1 hlt
    rw [e1, e2] at this
    exact absurd he.symm this

theorem LK.moved (h : LK most s cnt L) {i : Nat} {x : One} (hx : L[i]? = some x) (r c : Int) :
    LK most (upd s x.h.toNat { s x.h.toNat with r := r, c := c }) cnt (L.set i { x with r := r, c := c }) := by
  obtain ⟨hil, hie⟩ := List.getElem?_eq_some_iff.1 hx
  have hxm := h.all x (List.mem_of_getElem? hx)
  have hxr := isOpen_range hxm.1
  have hop : ∀ hh, isOpen most (upd s x.h.toNat { s x.h.toNat with r := r, c := c }) hh = isOpen most s hh := fun hh => by
    unfold isOpen upd
    by_cases he : hh.toNat = x.h.toNat
    · simp [he]
    · simp [he]
  refine ⟨fun y hy => ?_, fun hh ho => ?_, ?_, by simp [h.num]⟩
  · rw [hop]
    obtain ⟨j, hj⟩ := List.getElem?_of_mem hy
    by_cases hji : i = j
    · subst hji
      rw [List.getElem?_set_self hil] at hj
      cases hj
      refine ⟨hxm.1, ?_⟩
      simp [upd, hxm.2]
    · rw [List.getElem?_set_ne hji] at hj
      have hyl := h.all y (List.mem_of_getElem? hj)
      have hyr := isOpen_range hyl.1
      refine ⟨hyl.1, ?_⟩
      have hne : y.h ≠ x.h := fun e => hji (nd_at h.nd hx hj e.symm)
      rw [← hyl.2]
      unfold upd
      rw [if_neg (by omega)]
  · rw [hop] at ho
    obtain ⟨y, hy, hye⟩ := h.cov hh ho
    obtain ⟨j, hj⟩ := List.getElem?_of_mem hy
    by_cases hji : i = j
    · subst hji
      rw [hx] at hj
      cases hj
      exact ⟨{ x with r := r, c := c }, List.mem_of_getElem? (List.getElem?_set_self hil), hye⟩
    · exact ⟨y, List.mem_of_getElem? ((List.getElem?_set_ne hji).trans hj), hye⟩
  · rw [List.pairwise_iff_getElem]
    intro a b ha hb hab
    rw [List.length_set] at ha hb
    have := List.pairwise_iff_getElem.1 h.nd a b ha hb hab
    rw [List.getElem_set, List.getElem_set]
    split
    · rename_i e
      subst e
      rw [hie] at this
      rw [if_neg (by omega)]
      exact this
    · split
      · rename_i e
        subst e
        rw [hie] at this
        exact this
      · exact this

theorem LK.closed (h : LK most s cnt L) {i : Nat} {x : One} (hx : L[i]? = some x) :
    LK most (upd s x.h.toNat ⟨0, 0, 0, 0⟩) (cnt - 1) (L.take i ++ L.drop (i + 1)) := by
  obtain ⟨hil, hie⟩ := List.getElem?_eq_some_iff.1 hx
  have hxm := h.all x (List.mem_of_getElem? hx)
  have hxr := isOpen_range hxm.1
  have hmem : ∀ y, y ∈ L.take i ++ L.drop (i + 1) → y ∈ L ∧ y.h ≠ x.h := fun y hy => by
    rcases List.mem_append.1 hy with hy | hy
    · obtain ⟨j, hj⟩ := List.getElem?_of_mem hy
      rw [List.getElem?_take] at hj
      split at hj
      · exact ⟨List.mem_of_getElem? hj, fun e => by have := nd_at h.nd hj hx e; omega⟩
      · cases hj
    · obtain ⟨j, hj⟩ := List.getElem?_of_mem hy
      rw [List.getElem?_drop] at hj
      exact ⟨List.mem_of_getElem? hj, fun e => by have := nd_at h.nd hj hx e; omega⟩
  refine ⟨fun y hy => ?_, fun hh ho => ?_, ?_, ?_⟩
  · obtain ⟨h1, h2⟩ := hmem y hy
    have hyl := h.all y h1
    have hyr := isOpen_range hyl.1
    refine ⟨?_, ?_⟩
    · rw [← hyl.1]
      exact isOpen_upd_ne most s x.h.toNat _ (by omega) (by omega)
    · rw [← hyl.2]
      unfold upd
      rw [if_neg (by omega)]
  · have hhr := isOpen_range ho
    by_cases he : hh = x.h
    · subst he
      simp [isOpen, upd] at ho
    · rw [isOpen_upd_ne most s x.h.toNat _ (by omega) (by omega)] at ho
      obtain ⟨y, hy, hye⟩ := h.cov hh ho
      obtain ⟨j, hj⟩ := List.getElem?_of_mem hy
      refine ⟨y, ?_, hye⟩
      rcases Nat.lt_trichotomy j i with hlt | heq | hlt
      · refine List.mem_append_left _ (List.mem_of_getElem? (i := j) ?_)
        rw [List.getElem?_take, if_pos hlt]
        exact hj
      · subst heq
        rw [hx] at hj
        cases hj
        exact absurd hye.symm he
      · refine List.mem_append_right _ (List.mem_of_getElem? (i := j - (i + 1)) ?_)
        rw [List.getElem?_drop, show i + 1 + (j - (i + 1)) = j by omega]
        exact hj
  · rw [List.pairwise_append]
    refine ⟨h.nd.sublist (List.take_sublist _ _), h.nd.sublist (List.drop_sublist _ _), fun a ha b hb => ?_⟩
    obtain ⟨j, hj⟩ := List.getElem?_of_mem ha
    obtain ⟨k, hk⟩ := List.getElem?_of_mem hb
    rw [List.getElem?_take] at hj
    rw [List.getElem?_drop] at hk
    split at hj
    · exact fun e => by have := nd_at h.nd hj hk e; omega
    · cases hj
  · have := h.num
    simp
    omega
end
end Go.Proofs.Ytocglcngfgpfnaa

/-
  The document's views: their list in memory; contracts of orielref22's New, find, Count, Rect, Move. Conditions: those of each theorem.
-/
import Derived.Test.YtocglcngfgpfnaaViewInv
import Derived.Test.YtocglcngfgpfnaaGen
import Derived.StillTailTactics
import Derived.RegionTactic
import Derived.Deep.RegionLaw
import Derived.IntWalk
import Derived.Lib.Hide
namespace Go.Proofs.Ytocglcngfgpfnaa
open Go.ChangeShapes Go.WideShapes Go.ChangeAt Go.RowKit Go.Deep

structure One where
  h : Int
  r : Int
  c : Int
  m : Int
  n : Int
def KO : Knd One where
  t := 65
  size := 5
  bytes := 40
  enc x := [.int .i64 x.h, .int .i64 x.r, .int .i64 x.c, .int .i64 x.m, .int .i64 x.n]
  len _ := rfl
  one x u hu := by
    simp at hu
    rcases hu with rfl | rfl | rfl | rfl | rfl <;> rfl
  pos := by omega
theorem info_one : (Try.prog.info? KO.t).map (fun i => (i.zero, i.size, i.bytes)) = some (some (.agg #[.int .i64 0, .int .i64 0, .int .i64 0, .int .i64 0, .int .i64 0]), KO.size, KO.bytes) := by kernel_rfl

/-- The document's views at block yb: at most so many, these open. -/
structure RIs (w : World) (yb B : Nat) (most : Int) (L : List One) (A : Option Addr) (cap : Nat) : Prop where
  top : Blk w yb 62 #[.int .i64 most, .slice A L.length cap]
  lst : OL KO w B (.slice A L.length cap) L
section
variable {w w' : World} {yb B : Nat} {most : Int} {L : List One} {A : Option Addr} {cap : Nat}
theorem RIs.below (h : RIs w yb B most L A cap) (hb : Below w.heap.size w w') : RIs w' yb B most L A cap := ⟨h.top.below hb, h.lst.below hb⟩
theorem RIs.alloc (h : RIs w yb B most L A cap) (o : Obj) : RIs (w.alloc o) yb B most L A cap := h.below (bel_alloc (bel_refl w) o)
theorem RIs.drew (h : RIs w yb B most L A cap) : RIs w.drew yb B most L A cap := ⟨h.top.drew, h.lst.drew⟩
theorem RIs.at_ (h : RIs w yb B most L A cap) {i : Nat} {x : One} (hx : L[i]? = some x) : ∃ g, A = some ⟨g, 0, none⟩ ∧ g < w.heap.size ∧ w.cell? ⟨g, i * 5, none⟩ = some (.int .i64 x.h) ∧ w.cell? ⟨g, i * 5 + 1, none⟩ = some (.int .i64 x.r) ∧ w.cell? ⟨g, i * 5 + 2, none⟩ = some (.int .i64 x.c) ∧ w.cell? ⟨g, i * 5 + 3, none⟩ = some (.int .i64 x.m) ∧ w.cell? ⟨g, i * 5 + 4, none⟩ = some (.int .i64 x.n) := by
  obtain ⟨A', cap', e, _, _, hl, hA⟩ := h.lst.see
  cases e
  rcases hA with rfl | ⟨g, rfl, _, hg⟩
  · obtain ⟨b, off, h1, _⟩ := hl i x hx
    cases h1
  · have hu := fun j u (hu : (KO.enc x)[j]? = some u) => h.lst.at_ hx hu
    exact ⟨g, rfl, hg, hu 0 _ rfl, hu 1 _ rfl, hu 2 _ rfl, hu 3 _ rfl, hu 4 _ rfl⟩
theorem RIs.far (h : RIs w yb B most L A cap) : ∀ g, A = some ⟨g, 0, none⟩ → B ≤ g := fun g hg => by
  subst hg
  exact (h.lst.lt g rfl).1
theorem RIs.lmax (h : RIs w yb B most L A cap) : L.length ≤ 9223372036854775807 := by
  obtain ⟨A', cap', e, h1, h2, _, _⟩ := h.lst.see
  unfold maxLen at h2
  omega
end

theorem rnew_no (most : Int) (w : World) (h : most < 1 ∨ 16 < most) :
    Calls Try.prog 14 #[.int .i64 most] w fun e w' => e = .returned (.tuple #[.pointer none, .int .i64 1]) ∧ w = w' := by
  rcases h with h | h
  · have h' : decide (most < 1) = true := by simpa using h
    go_enter Try.func14, Try.ntmps14
    go_wp2_with fail
    go_ret2
    exact ⟨rfl, rfl⟩
  · have h' : decide (most < 1) = false := by simp; omega
    go_enter Try.func14, Try.ntmps14
    go_wp2_with fail
    go_ret2
    exact ⟨rfl, rfl⟩
theorem rnew_yes (B : Nat) (most : Int) (w : World) (h : 1 ≤ most) (h2 : most ≤ 16) :
    Calls Try.prog 14 #[.int .i64 most] w fun e w' => ∃ b, w.heap.size ≤ b ∧ e = .returned (.tuple #[.pointer (some ⟨b, 0, none⟩), .int .i64 0]) ∧ RIs w' b B most [] none 0 ∧ Below w.heap.size w w' := by
  have h' : decide (most < 1) = false := by simp; omega
  go_enter Try.func14, Try.ntmps14
  go_wp2_with fail
  go_ret2
  exact ⟨w.heap.size, Nat.le_refl _, rfl, ⟨Blk.new w rfl _ _, OL.nil _ _⟩, bel_alloc (bel_refl w) _⟩

section
variable {yb B : Nat} {most : Int} {L : List One} {A : Option Addr} {cap : Nat}
theorem rcount_any (w : World) (h : RIs w yb B most L A cap) :
    Calls Try.prog 20 #[.pointer (some ⟨yb, 0, none⟩)] w fun e w' => e = .returned (.int .i64 L.length) ∧ w = w' := by
  have rd0 := h.top.rd
  have lt0 := h.top.lt
  go_enter Try.func20, Try.ntmps20
  go_wp2_with fail
  go_ret
  exact ⟨rfl, rfl⟩

theorem rfind_yes (hh : Int) (i : Nat) (w : World) (h : RIs w yb B most L A cap) {x : One} (hx : L[i]? = some x) (he : x.h = hh) (hno : ∀ j y, j < i → L[j]? = some y → y.h ≠ hh) :
    Calls Try.prog 26 #[.pointer (some ⟨yb, 0, none⟩), .int .i64 hh] w fun e w' => e = .returned (.int .i64 i) ∧ w = w' := by
  have rd0 := h.top.rd
  have lt0 := h.top.lt
  have hmax := h.lmax
  have hil : i < L.length := (List.getElem?_eq_some_iff.1 hx).1
  have HNO := Lib.hid hno
  have HX := Lib.hid hx
  clear hno hx
  go_enter Try.func26, Try.ntmps26
  go_wp2_with fail
  go_loop [5] (fun s5 => ∃ k : Nat, k ≤ i ∧ s5 = .int .i64 k) (fun s5 => L.length - (intOf s5).toNat)
  case atStart => exact ⟨0, Nat.zero_le _, rfl⟩
  case round =>
    obtain ⟨k, hk, rfl⟩ := hrel
    have hkl : k < L.length := by omega
    by_cases hki : k = i
    · subst hki
      obtain ⟨g, hA, hg, c0, _⟩ := h.at_ HX.out
      rw [he] at c0
      subst hA
      clear he
      go_wp2_with fail
      go_ret
      exact ⟨rfl, rfl⟩
    · obtain ⟨y, hy⟩ : ∃ y, L[k]? = some y := ⟨_, List.getElem?_eq_getElem hkl⟩
      obtain ⟨g, hA, hg, c0, _⟩ := h.at_ hy
      have hne : (y.h == hh) = false := by
        rw [beq_eq_false_iff_ne]
        exact HNO.out k y (by omega) hy
      subst hA
      clear hy
      go_wp2_with fail
      go_round
      case rel => exact ⟨k + 1, by omega, by go_num⟩
      case measure => simp [intOf]; omega
theorem rfind_no (hh : Int) (w : World) (h : RIs w yb B most L A cap) (hno : ∀ y, y ∈ L → y.h ≠ hh) :
    Calls Try.prog 26 #[.pointer (some ⟨yb, 0, none⟩), .int .i64 hh] w fun e w' => e = .returned (.int .i64 (-1)) ∧ w = w' := by
  have rd0 := h.top.rd
  have lt0 := h.top.lt
  have hmax := h.lmax
  have HNO := Lib.hid hno
  clear hno
  go_enter Try.func26, Try.ntmps26
  go_wp2_with fail
  go_loop [5] (fun s5 => ∃ k : Nat, k ≤ L.length ∧ s5 = .int .i64 k) (fun s5 => L.length - (intOf s5).toNat)
  case atStart => exact ⟨0, Nat.zero_le _, rfl⟩
  case round =>
    obtain ⟨k, hk, rfl⟩ := hrel
    by_cases hkl : k < L.length
    · obtain ⟨y, hy⟩ : ∃ y, L[k]? = some y := ⟨_, List.getElem?_eq_getElem hkl⟩
      obtain ⟨g, hA, hg, c0, _⟩ := h.at_ hy
      have hne : (y.h == hh) = false := by
        rw [beq_eq_false_iff_ne]
        exact HNO.out y (List.mem_of_getElem? hy)
      subst hA
      clear hy
      go_wp2_with fail
      go_round
      case rel => exact ⟨k + 1, by omega, by go_num⟩
      case measure => simp [intOf]; omega
    · go_wp2_with fail
      go_ret
      exact ⟨rfl, rfl⟩
end
end Go.Proofs.Ytocglcngfgpfnaa

/-
  Contracts of orielref22's Rect, Move, Close, Open. Conditions: those of each theorem.
-/
import Derived.Test.YtocglcngfgpfnaaVRef1
namespace Go.Proofs.Ytocglcngfgpfnaa
open Go.ChangeShapes Go.WideShapes Go.ChangeAt Go.RowKit Go.Deep

theorem ret_rect {x y a b a' b' : Int} (h1 : a = a') (h2 : b = b') : Ending.returned (.tuple #[.agg #[.int .i64 x, .int .i64 y, .int .i64 a, .int .i64 b], .int .i64 0]) = Ending.returned (.tuple #[.agg #[.int .i64 x, .int .i64 y, .int .i64 a', .int .i64 b'], .int .i64 0]) := by rw [h1, h2]
section
variable {yb B : Nat} {most : Int} {L : List One} {A : Option Addr} {cap : Nat}
theorem rrect_no (hh : Int) (w : World) (h : RIs w yb B most L A cap) (hno : ∀ y, y ∈ L → y.h ≠ hh) :
    Calls Try.prog 19 #[.pointer (some ⟨yb, 0, none⟩), .int .i64 hh] w fun e w' => e = .returned (.tuple #[.agg #[.int .i64 0, .int .i64 0, .int .i64 0, .int .i64 0], .int .i64 4]) ∧ Below w.heap.size w w' := by
  have hlt := h.top.lt
  have HNO := Lib.hid hno
  clear hno
  go_enter Try.func19, Try.ntmps19
  go_wp2_with fail
  refine (rfind_no hh _ (h.alloc _) HNO.out).mono ?_
  rintro e w' ⟨rfl, rfl⟩
  go_wp2_with fail
  exact bodyPost_ret (v := .tuple #[.agg #[.int .i64 0, .int .i64 0, .int .i64 0, .int .i64 0], .int .i64 4]) (by simp [results, Try.results19, go_sem]) rfl ⟨rfl, bel_alloc (bel_refl w) _⟩

set_option maxHeartbeats 1600000 in
theorem rrect_yes (hh : Int) (i : Nat) (w : World) (h : RIs w yb B most L A cap) {x : One} (hx : L[i]? = some x) (he : x.h = hh) (hno : ∀ j y, j < i → L[j]? = some y → y.h ≠ hh)
    (b1 : 1 ≤ x.r ∧ x.r ≤ 4096) (b2 : 1 ≤ x.c ∧ x.c ≤ 256) (b3 : 1 ≤ x.m ∧ x.m ≤ 4096) (b4 : 1 ≤ x.n ∧ x.n ≤ 256) :
    Calls Try.prog 19 #[.pointer (some ⟨yb, 0, none⟩), .int .i64 hh] w fun e w' =>
      e = .returned (.tuple #[.agg #[.int .i64 x.r, .int .i64 x.c, .int .i64 (min 4096 (x.r + x.m - 1)), .int .i64 (min 256 (x.c + x.n - 1))], .int .i64 0]) ∧ Below w.heap.size w w' := by
  have hlt := h.top.lt
  have rd0 := (h.alloc (.cells #[.int .i64 0, .int .i64 0, .int .i64 0, .int .i64 0] 34)).top.rd
  have lt0 := h.top.lt
  have hmax := h.lmax
  have hil : i < L.length := (List.getElem?_eq_some_iff.1 hx).1
  obtain ⟨g, hA, hg, c0, c1, c2, c3, c4⟩ := (h.alloc (.cells #[.int .i64 0, .int .i64 0, .int .i64 0, .int .i64 0] 34)).at_ hx
  obtain ⟨g', hA', hg', _⟩ := h.at_ hx
  rw [hA] at hA'
  cases hA'
  have HNO := Lib.hid hno
  have HX := Lib.hid hx
  have HE := Lib.hid he
  clear hno hx
  subst hA
  obtain ⟨xh, xr, xc, xm, xn⟩ := x
  dsimp only at c0 c1 c2 c3 c4 b1 b2 b3 b4 he ⊢
  clear he
  go_enter Try.func19, Try.ntmps19
  go_wp2_with fail
  refine (rfind_yes hh i _ (h.alloc _) HX.out HE.out HNO.out).mono ?_
  rintro e w' ⟨rfl, rfl⟩
  go_wp2_with fail
  all_goals
    first
      | exact bodyPost_ret (v := .tuple #[.agg #[.int .i64 xr, .int .i64 xc, .int .i64 4096, .int .i64 256], .int .i64 0]) (by simp [results, Try.results19, go_sem]) rfl ⟨ret_rect (by omega) (by omega), bel_alloc (bel_alloc (bel_refl w) _) _⟩
      | exact bodyPost_ret (v := .tuple #[.agg #[.int .i64 xr, .int .i64 xc, .int .i64 4096, .int .i64 (xc + xn - 1)], .int .i64 0]) (by simp [results, Try.results19, go_sem]) rfl ⟨ret_rect (by omega) (by omega), bel_alloc (bel_alloc (bel_refl w) _) _⟩
      | exact bodyPost_ret (v := .tuple #[.agg #[.int .i64 xr, .int .i64 xc, .int .i64 (xr + xm - 1), .int .i64 256], .int .i64 0]) (by simp [results, Try.results19, go_sem]) rfl ⟨ret_rect (by omega) (by omega), bel_alloc (bel_alloc (bel_refl w) _) _⟩
      | exact bodyPost_ret (v := .tuple #[.agg #[.int .i64 xr, .int .i64 xc, .int .i64 (xr + xm - 1), .int .i64 (xc + xn - 1)], .int .i64 0]) (by simp [results, Try.results19, go_sem]) rfl ⟨ret_rect (by omega) (by omega), bel_alloc (bel_alloc (bel_refl w) _) _⟩

theorem RIs.apart {w : World} {g : Nat} (h : RIs w yb B most L (some ⟨g, 0, none⟩) cap) : yb ≠ g := by
  obtain ⟨cur, e⟩ := h.lst.type g rfl
  rintro rfl
  have e1 : w.heap[yb]? = some (.cells #[.int .i64 most, .slice (some ⟨yb, 0, none⟩) L.length cap] 62 (0, 0)) := h.top
  rw [e1] at e
  injection e with e
  injection e with _ e
  exact absurd e (by decide)
theorem RIs.place {w : World} {g i : Nat} {x : One} (h : RIs w yb B most L (some ⟨g, 0, none⟩) cap) (hx : L[i]? = some x) (r c : Int) :
    RIs ((w.setCell ⟨g, i * 5 + 1, none⟩ (.int .i64 r)).setCell ⟨g, i * 5 + 2, none⟩ (.int .i64 c)) yb B most (L.set i { x with r := r, c := c }) (some ⟨g, 0, none⟩) cap := by
  have h1 := h.lst.put (j := 1) (x' := { x with r := r }) (u := .int .i64 r) hx (by decide) rfl
  have hil : i < L.length := (List.getElem?_eq_some_iff.1 hx).1
  have hx1 : (L.set i { x with r := r })[i]? = some { x with r := r } := by simp [hil]
  rw [show L.length = (L.set i { x with r := r }).length by simp] at h1
  have h2 := h1.put (j := 2) (x' := { x with r := r, c := c }) (u := .int .i64 c) hx1 (by decide) rfl
  rw [List.set_set, show (L.set i { x with r := r }).length = (L.set i { x with r := r, c := c }).length by simp] at h2
  refine ⟨?_, h2⟩
  rw [List.length_set]
  exact (h.top.far h.apart _).far h.apart _

theorem rmove_addr (yb : Nat) (hh r c : Int) (w : World) (hm : mayB r c = false) :
    Calls Try.prog 16 #[.pointer (some ⟨yb, 0, none⟩), .int .i64 hh, .agg #[.int .i64 r, .int .i64 c]] w fun e w' => e = .returned (.int .i64 3) ∧ Below w.heap.size w w' := by
  go_enter Try.func16, Try.ntmps16
  go_wp2_with fail
  refine (rmay_any _ _ _).mono ?_
  rintro e w1 ⟨rfl, hb1⟩
  rw [hm]
  have hw := bel_call (bel_alloc (bel_refl w) _) hb1
  go_wp2_with fail
  go_ret
  exact ⟨rfl, hw⟩
theorem rmove_no (hh r c : Int) (w : World) (h : RIs w yb B most L A cap) (hm : mayB r c = true) (hno : ∀ y, y ∈ L → y.h ≠ hh) :
    Calls Try.prog 16 #[.pointer (some ⟨yb, 0, none⟩), .int .i64 hh, .agg #[.int .i64 r, .int .i64 c]] w fun e w' => e = .returned (.int .i64 4) ∧ Below w.heap.size w w' := by
  have HNO := Lib.hid hno
  clear hno
  go_enter Try.func16, Try.ntmps16
  go_wp2_with fail
  refine (rmay_any _ _ _).mono ?_
  rintro e w1 ⟨rfl, hb1⟩
  rw [hm]
  have hw := bel_call (bel_alloc (bel_refl w) _) hb1
  have h1 := (h.alloc _).below hb1
  go_wp2_with fail
  refine (rfind_no hh _ h1 HNO.out).mono ?_
  rintro e w' ⟨rfl, rfl⟩
  go_wp2_with fail
  go_ret
  exact ⟨rfl, hw⟩
set_option maxHeartbeats 1600000 in
theorem rmove_yes (hh r c : Int) (i : Nat) (w : World) (h : RIs w yb B most L A cap) (hm : mayB r c = true) {x : One} (hx : L[i]? = some x) (he : x.h = hh) (hno : ∀ j y, j < i → L[j]? = some y → y.h ≠ hh) :
    Calls Try.prog 16 #[.pointer (some ⟨yb, 0, none⟩), .int .i64 hh, .agg #[.int .i64 r, .int .i64 c]] w fun e w' => e = .returned (.int .i64 0) ∧
      RIs w' yb B most (L.set i { x with r := r, c := c }) A cap ∧ ∀ g, A = some ⟨g, 0, none⟩ → w.grownBy w' (some g) := by
  have HNO := Lib.hid hno
  have HX := Lib.hid hx
  have HE := Lib.hid he
  have hmax := h.lmax
  have hil : i < L.length := (List.getElem?_eq_some_iff.1 hx).1
  clear hno hx he
  go_enter Try.func16, Try.ntmps16
  go_wp2_with fail
  refine (rmay_any _ _ _).mono ?_
  rintro e w1 ⟨rfl, hb1⟩
  rw [hm]
  have k5 := (Blk.new w rfl 23 #[.int .i64 r, .int .i64 c]).below hb1
  have hw := bel_call (bel_alloc (bel_refl w) _) hb1
  have h1 := (h.alloc _).below hb1
  have hlt := h.top.lt
  clear hb1
  go_wp2_with fail
  refine (rfind_yes hh i _ h1 HX.out HE.out HNO.out).mono ?_
  rintro e w' ⟨rfl, rfl⟩
  have rd0 := h1.top.rd
  have lt0 := h1.top.lt
  have rd5 := k5.rd
  obtain ⟨g, rfl, hg, c0, c1, c2, c3, c4⟩ := h1.at_ HX.out
  have fz := h1.lst.fz
  obtain ⟨xh, xr, xc, xm, xn⟩ := x
  dsimp only at c0 c1 c2 c3 c4
  have i0 : (0 : Int) ≤ (i : Int) := by omega
  have i1 : (i : Int) < (L.length : Int) := by omega
  go_wp2_with fail
  have hK : RIs w1 yb B most L (some ⟨g, 0, none⟩) cap := h1
  go_region
  go_wp2_with fail
  go_ret
  exact ⟨rfl, hK.drew.place HX.out r c, grown_drew (grown_set (grown_set (grown_of_below hw _) (.inl rfl) _) (.inl rfl) _)⟩

theorem rclose_no (hh : Int) (w : World) (h : RIs w yb B most L A cap) (hno : ∀ y, y ∈ L → y.h ≠ hh) :
    Calls Try.prog 18 #[.pointer (some ⟨yb, 0, none⟩), .int .i64 hh] w fun e w' => e = .returned (.int .i64 4) ∧ w = w' := by
  have HNO := Lib.hid hno
  clear hno
  go_enter Try.func18, Try.ntmps18
  go_wp2_with fail
  refine (rfind_no hh _ h HNO.out).mono ?_
  rintro e w' ⟨rfl, rfl⟩
  go_wp2_with fail
  go_ret
  exact ⟨rfl, rfl⟩
set_option maxHeartbeats 1600000 in
theorem rclose_yes (hh : Int) (i : Nat) (w : World) (h : RIs w yb B most L A cap) (hL : L.length ≤ 16) (hBw : B ≤ w.heap.size) {x : One} (hx : L[i]? = some x) (he : x.h = hh) (hno : ∀ j y, j < i → L[j]? = some y → y.h ≠ hh) :
    Calls Try.prog 18 #[.pointer (some ⟨yb, 0, none⟩), .int .i64 hh] w fun e w' => e = .returned (.int .i64 0) ∧
      (∃ A' cap', RIs w' yb B most (L.take i ++ L.drop (i + 1)) A' cap') ∧ w.grownBy w' (some yb) := by
  have HNO := Lib.hid hno
  have HX := Lib.hid hx
  have HE := Lib.hid he
  have hmax := h.lmax
  have hil : i < L.length := (List.getElem?_eq_some_iff.1 hx).1
  clear hno hx he
  go_enter Try.func18, Try.ntmps18
  go_wp2_with fail
  refine (rfind_yes hh i _ h HX.out HE.out HNO.out).mono ?_
  rintro e w' ⟨rfl, rfl⟩
  have rd0 := h.top.rd
  have lt0 := h.top.lt
  obtain ⟨A', cap', e, hc1, hc2, hli, hA⟩ := h.lst.see
  cases e
  obtain ⟨g, rfl, hg, _⟩ := h.at_ HX.out
  clear hA
  have i0 : (0 : Int) ≤ (i : Int) := by omega
  have i1 : (i : Int) ≤ (L.length : Int) := by omega
  have i2 : (i : Int) ≤ (cap : Int) := by omega
  have hz5 : (i : Int) + 1 = ((i + 1 : Nat) : Int) := by omega
  have hcapi : i + 1 ≤ cap := by omega
  have hM : Lies KO w (if cap = i + 1 then some ⟨g, 0, none⟩ else some ⟨g, (i + 1) * 5, none⟩) (L.drop (i + 1)) := hli.cut hc1
  have HZ5 := Lib.hid hz5
  clear hz5
  have hne := h.apart
  have hlen8 : (([] : List One) ++ L.take i ++ L.drop (i + 1)).length = L.length - 1 := by simp; omega
  have hlen9 : (L.take i ++ L.drop (i + 1)).length = L.length - 1 := by simp; omega
  have HLEN8 := Lib.hid hlen8
  have HLEN9 := Lib.hid hlen9
  clear hlen8 hlen9
  by_cases hci : cap = i + 1
  case' pos => rw [if_pos hci] at hM; subst hci
  case' neg => rw [if_neg hci] at hM
  all_goals
    go_wp2_with (first
      | (at_builtin; (refine wp_ol_append info_one rfl Try.underlying60 rfl (.tmp 12) (.tmp 18) rfl rfl (OL.nil w w.heap.size) (M := L.take i) rfl (by simp; omega) (hli.take i) (by unfold maxLen at *; simp; omega) (by simp [KO]; omega) (Nat.le_refl _) ?_); intro v7 w7 hO7 hg7; have hB7 : Below w.heap.size w w7 := below_of_grown' hg7; have hk7 := (h.below hB7).top.rd; have hf7 := (h.below hB7).top.fz; have hl7 := (h.below hB7).top.lt; have hM7 := hM.below hB7)
      | (at_builtin; ((refine wp_ol_append info_one rfl Try.underlying60 rfl (.tmp 20) (.tmp 27) rfl rfl hO7 (M := L.drop (i + 1)) rfl (by first | (simp; done) | (simp; omega)) hM7 (by unfold maxLen at *; simp; omega) (by simp [KO]; omega) hB7.size ?_); intro v8 w8 hO8 hg8; have hB8 : Below w.heap.size w w8 := bel_grown hB7 hg8 (fun z hz => (hO7.lt z hz).1); have hk8 := (h.below hB8).top.rd; have hf8 := (h.below hB8).top.fz; have hl8 := (h.below hB8).top.lt; obtain ⟨A9, cap9, hv8, _, _, _, _⟩ := hO8.see; rw [HLEN8.out] at hv8; subst hv8)))
    go_ret
    refine ⟨rfl, ⟨A9, cap9, ⟨?_, ?_⟩⟩, grown_set (grown_of_below hB8 _) (.inl rfl) _⟩
    · rw [HLEN9.out]
      exact (h.below hB8).top.put 1 (.slice A9 (L.length - 1) cap9)
    · rw [HLEN9.out]
      exact (hO8.low hBw).set (fun z hz e => by have h1 := (hO8.lt z hz).1; have h2 := h.top.lt; omega) 1 _
end
end Go.Proofs.Ytocglcngfgpfnaa

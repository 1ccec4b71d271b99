/-
  Contracts of orielref22's Open. Conditions: those of each theorem.
-/
import Derived.Test.YtocglcngfgpfnaaVRef2
import Derived.Test.YtocglcngfgpfnaaPlan
namespace Go.Proofs.Ytocglcngfgpfnaa
attribute [local go_sem] Cls
open Go.ChangeShapes Go.WideShapes Go.ChangeAt Go.RowKit Go.Deep

theorem first_of {hh : Int} : ∀ (L : List One), (∃ x, x ∈ L ∧ x.h = hh) → ∃ (i : Nat) (x : One), L[i]? = some x ∧ x.h = hh ∧ ∀ j y, j < i → L[j]? = some y → y.h ≠ hh
  | [], h => by
    obtain ⟨x, hx, _⟩ := h
    simp at hx
  | y :: L, h => by
    by_cases he : y.h = hh
    · exact ⟨0, y, rfl, he, fun j z hj => by omega⟩
    · obtain ⟨x, hx, hxe⟩ := h
      rcases List.mem_cons.1 hx with rfl | hx
      · exact absurd hxe he
      · obtain ⟨i, x, h1, h2, h3⟩ := first_of L ⟨x, hx, hxe⟩
        refine ⟨i + 1, x, by simpa using h1, h2, fun j z hj hz => ?_⟩
        cases j with
        | zero => simp at hz; subst hz; exact he
        | succ j => exact h3 j z (by omega) (by simpa using hz)

section
variable {yb B : Nat} {most : Int} {L : List One} {A : Option Addr} {cap : Nat}
theorem rfind_some (hh : Int) (w : World) (h : RIs w yb B most L A cap) (hex : ∃ x, x ∈ L ∧ x.h = hh) :
    Calls Try.prog 26 #[.pointer (some ⟨yb, 0, none⟩), .int .i64 hh] w fun e w' => ∃ i : Nat, i ≤ 9223372036854775807 ∧ e = .returned (.int .i64 i) ∧ w = w' := by
  obtain ⟨i, x, h1, h2, h3⟩ := first_of L hex
  have hil : i < L.length := (List.getElem?_eq_some_iff.1 h1).1
  have hmax := h.lmax
  refine (rfind_yes hh i w h h1 h2 h3).mono ?_
  rintro e w' ⟨rfl, rfl⟩
  exact ⟨i, by omega, rfl, rfl⟩

theorem ropen_addr (yb : Nat) (r1 c1 r2 c2 : Int) (w : World) (hm : mayB r1 c1 = false ∨ mayB r2 c2 = false) :
    Calls Try.prog 15 #[.pointer (some ⟨yb, 0, none⟩), .agg #[.int .i64 r1, .int .i64 c1], .agg #[.int .i64 r2, .int .i64 c2]] w fun e w' => e = .returned (.tuple #[.int .i64 0, .int .i64 3]) ∧ Below w.heap.size w w' := by
  cases h1 : mayB r1 c1 with
  | false =>
    go_enter Try.func15, Try.ntmps15
    go_wp2_with fail
    refine (rmay_any _ _ _).mono ?_
    rintro e w1 ⟨rfl, hb1⟩
    rw [h1]
    have hw := bel_call (bel_alloc (bel_alloc (bel_refl w) _) _) hb1
    go_wp2_with fail
    go_ret2
    exact ⟨rfl, hw⟩
  | true =>
    have h2 : mayB r2 c2 = false := by
      rcases hm with hm | hm
      · rw [h1] at hm
        cases hm
      · exact hm
    go_enter Try.func15, Try.ntmps15
    go_wp2_with fail
    refine (rmay_any _ _ _).mono ?_
    rintro e w1 ⟨rfl, hb1⟩
    rw [h1]
    have hw := bel_call (bel_alloc (bel_alloc (bel_refl w) _) _) hb1
    have k5 := (Blk.new (w.alloc (.cells #[.int .i64 r1, .int .i64 c1] 23)) (g := w.heap.size + 1) (by simp) 23 #[.int .i64 r2, .int .i64 c2]).below hb1
    have rd5 := k5.rd
    go_wp2_with fail
    refine (rmay_any _ _ _).mono ?_
    rintro e w2 ⟨rfl, hb2⟩
    rw [h2]
    replace hw := bel_call hw hb2
    go_wp2_with fail
    go_ret2
    exact ⟨rfl, hw⟩

theorem ropen_full (r1 c1 r2 c2 : Int) (w : World) (h : RIs w yb B most L A cap) (hfull : most ≤ L.length) (h1 : mayB r1 c1 = true) (h2 : mayB r2 c2 = true) :
    Calls Try.prog 15 #[.pointer (some ⟨yb, 0, none⟩), .agg #[.int .i64 r1, .int .i64 c1], .agg #[.int .i64 r2, .int .i64 c2]] w fun e w' => e = .returned (.tuple #[.int .i64 0, .int .i64 5]) ∧ Below w.heap.size w w' := by
  go_enter Try.func15, Try.ntmps15
  go_wp2_with fail
  refine (rmay_any _ _ _).mono ?_
  rintro e w1 ⟨rfl, hb1⟩
  rw [h1]
  have hw := bel_call (bel_alloc (bel_alloc (bel_refl w) _) _) hb1
  have k5 := (Blk.new (w.alloc (.cells #[.int .i64 r1, .int .i64 c1] 23)) (g := w.heap.size + 1) (by simp) 23 #[.int .i64 r2, .int .i64 c2]).below hb1
  have rd5 := k5.rd
  have h0 := ((h.alloc (.cells #[.int .i64 r1, .int .i64 c1] 23)).alloc (.cells #[.int .i64 r2, .int .i64 c2] 23)).below hb1
  go_wp2_with fail
  refine (rmay_any _ _ _).mono ?_
  rintro e w2 ⟨rfl, hb2⟩
  rw [h2]
  replace hw := bel_call hw hb2
  have h3 := h0.below hb2
  have rd0 := h3.top.rd
  have lt0 := h3.top.lt
  have hge : decide (most ≤ (L.length : Int)) = true := by simpa using hfull
  go_wp2_with fail
  go_quiet (fail)
  go_wp2_with fail
  go_ret2
  exact ⟨rfl, bel_drewN hw _⟩

/-- What the last statement leaves. -/
theorem ropen_end {w w2 w7 : World} {nq c7 : Nat} {A7 : Option Addr} {o : Obj} {hh a b m n a' b' m' n' : Int} (hw : Below w.heap.size w w2) (h : RIs w yb B most L A cap) (h3 : RIs w2 yb B most L A cap) (hg : ((w2.drewN (nq + 1)).alloc o).grownBy w7 (Value.slice A L.length cap).ownBlock)
    (hO7 : OL KO w7 B (.slice A7 (L.length + [(⟨hh, a, b, m, n⟩ : One)].length) c7) (L ++ [⟨hh, a, b, m, n⟩])) (k7 : Blk w7 yb 62 #[.int .i64 most, .slice A L.length cap]) (hfar : (Value.slice A L.length cap).ownBlock ≠ some yb) (he : a = a' ∧ b = b' ∧ m = m' ∧ n = n') :
    (Ending.returned (.tuple #[.int .i64 hh, .int .i64 0]) = Ending.returned (.tuple #[.int .i64 hh, .int .i64 0])) ∧ ∃ A' cap', RIs (w7.setCell ⟨yb, 1, none⟩ (.slice A7 (L.length + 1) c7)) yb B most (L ++ [⟨hh, a', b', m', n'⟩]) A' cap' ∧ Frm (fun z => z = yb ∨ A = some ⟨z, 0, none⟩) w (w7.setCell ⟨yb, 1, none⟩ (.slice A7 (L.length + 1) c7)) := by
  obtain ⟨rfl, rfl, rfl, rfl⟩ := he
  have hne : ∀ z, (Value.slice A7 (L.length + 1) c7).ownBlock = some z → z ≠ yb := fun z hz => by
    obtain ⟨cur, e⟩ := hO7.type z hz
    exact (ty_ne k7 e (by decide)).symm
  refine ⟨rfl, A7, c7, ⟨?_, ?_⟩, ?_⟩
  · rw [List.length_append]
    exact k7.put 1 (.slice A7 (L.length + 1) c7)
  · rw [List.length_append]
    exact hO7.set hne 1 _
  · have hz : ∀ g, (Value.slice A L.length cap).ownBlock = some g → A = some ⟨g, 0, none⟩ := fun g hg => by
      obtain ⟨A', cap', e, _, _, _, hA⟩ := h.lst.see
      cases e
      rcases hA with rfl | ⟨g', rfl, _⟩
      · cases hg
      · cases hg
        rfl
    exact (Frm.grown ((((Frm.refl _ w).call hw).drewN (nq + 1)).alloc o) hg (fun g hg => .inl (.inr (hz g hg)))).set (.inl (.inl rfl)) _

set_option maxHeartbeats 6400000 in
theorem ropen_yes (r1 c1 r2 c2 : Int) (w : World) (h : RIs w yb B most L A cap) (hBw : B ≤ w.heap.size) (hmx : most ≤ 16) (hfree : (L.length : Int) < most) (h1 : mayB r1 c1 = true) (h2 : mayB r2 c2 = true)
    (n : Nat) (hn : (n : Int) < most) (hlow : ∀ j : Nat, j < n → ∃ x, x ∈ L ∧ x.h = (j : Int) + 1) (hno : ∀ x, x ∈ L → x.h ≠ (n : Int) + 1) :
    Calls Try.prog 15 #[.pointer (some ⟨yb, 0, none⟩), .agg #[.int .i64 r1, .int .i64 c1], .agg #[.int .i64 r2, .int .i64 c2]] w fun e w' => e = .returned (.tuple #[.int .i64 ((n : Int) + 1), .int .i64 0]) ∧
      ∃ A' cap', RIs w' yb B most (L ++ [⟨(n : Int) + 1, min r1 r2, min c1 c2, max r1 r2 - min r1 r2 + 1, max c1 c2 - min c1 c2 + 1⟩]) A' cap' ∧ Frm (fun z => z = yb ∨ A = some ⟨z, 0, none⟩) w w' := by
  have HLOW := Lib.hid hlow
  have HNO := Lib.hid hno
  clear hlow hno
  have b1 := mayB_true h1
  have b2 := mayB_true h2
  go_enter Try.func15, Try.ntmps15
  go_wp2_with fail
  refine (rmay_any _ _ _).mono ?_
  rintro e w1 ⟨rfl, hb1⟩
  rw [h1]
  have hw := bel_call (bel_alloc (bel_alloc (bel_refl w) _) _) hb1
  have k4 := ((Blk.new w rfl 23 #[.int .i64 r1, .int .i64 c1]).alloc (.cells #[.int .i64 r2, .int .i64 c2] 23)).below hb1
  have k5 := (Blk.new (w.alloc (.cells #[.int .i64 r1, .int .i64 c1] 23)) (g := w.heap.size + 1) (by simp) 23 #[.int .i64 r2, .int .i64 c2]).below hb1
  have rd5 := k5.rd
  have h0 := ((h.alloc (.cells #[.int .i64 r1, .int .i64 c1] 23)).alloc (.cells #[.int .i64 r2, .int .i64 c2] 23)).below hb1
  go_wp2_with fail
  refine (rmay_any _ _ _).mono ?_
  rintro e w2 ⟨rfl, hb2⟩
  rw [h2]
  replace hw := bel_call hw hb2
  replace k4 := k4.below hb2
  replace k5 := k5.below hb2
  have h3 := h0.below hb2
  clear h0 hb1 hb2 rd5
  have rd0 := h3.top.rd
  have lt0 := h3.top.lt
  have hge : decide (most ≤ (L.length : Int)) = false := by simp; omega
  go_wp2_with fail
  go_quiet (fail)
  go_wp2_with fail
  clear rd0 lt0 hge
  have h4 : RIs (w2.drewN nq) yb B most L A cap := h3.below (bel_drewN (bel_refl w2) nq)
  go_loop [8] (fun s8 => ∃ k : Nat, k ≤ n ∧ s8 = .int .i64 ((k : Int) + 1)) (fun s8 => n + 1 - (intOf s8).toNat)
  case atStart => exact ⟨0, Nat.zero_le _, rfl⟩
  case round =>
    obtain ⟨k, hk, rfl⟩ := hrel
    by_cases hkn : k < n
    · go_wp2_with fail
      refine (rfind_some _ _ h4 (HLOW.out k hkn)).mono ?_
      rintro e w5 ⟨i, hi, rfl, rfl⟩
      go_wp2_with fail
      go_round
      case rel => exact ⟨k + 1, by omega, by go_num⟩
      case measure => simp [intOf]; omega
    · obtain rfl : k = n := by omega
      go_wp2_with fail
      refine (rfind_no _ _ h4 HNO.out).mono ?_
      rintro e w5 ⟨rfl, rfl⟩
      have rd4 := k4.rd
      have rd5 := k5.rd
      have rd0 := h3.top.rd
      have lt0 := h3.top.lt
      have hO : ∀ m, OL KO (w2.drewN m) B (.slice A L.length cap) L := fun m => h3.lst.below (bel_drewN (bel_refl w2) m)
      have hT : ∀ m, Blk (w2.drewN m) yb 62 #[.int .i64 most, .slice A L.length cap] := fun m => h3.top.drewN m
      have hfar : (Value.slice A L.length cap).ownBlock ≠ some yb := fun e => by
        obtain ⟨cur, e⟩ := h3.lst.type yb e
        exact ty_ne h3.top e (by decide) rfl
      have m1 : L.length + 1 ≤ maxLen := by unfold maxLen; omega
      have m2 : (L.length + 1) * KO.bytes ≤ 140737488355328 := by show (_ + _) * 40 ≤ _; omega
      have hyw : yb < w.heap.size := h.top.lt
      have hwz := hw.size
      obtain ⟨S, hS⟩ : ∃ S : World → Prop, S = fun w' => Blk w' w.heap.size 23 #[.int .i64 r1, .int .i64 c1] ∧ Blk w' (w.heap.size + 1) 23 #[.int .i64 r2, .int .i64 c2] ∧ Blk w' yb 62 #[.int .i64 most, .slice A L.length cap] := ⟨_, rfl⟩
      have s4 := fun x => (held_of hS x).1.rd
      have s5 := fun x => (held_of hS x).2.1.rd
      have sy := fun x => (held_of hS x).2.2.rd
      have HS := Lib.hid hS
      clear hS
      rcases (show r1 < r2 ∨ r1 = r2 ∨ r2 < r1 by omega) with hr | rfl | hr <;> rcases (show c1 < c2 ∨ c1 = c2 ∨ c2 < c1 by omega) with hc | rfl | hc
      case inl.inl =>
        have eM : Hid ((r1 : Int) = min r1 r2 ∧ (c1 : Int) = min c1 c2 ∧ r2 - r1 + 1 = max r1 r2 - min r1 r2 + 1 ∧ c2 - c1 + 1 = max c1 c2 - min c1 c2 + 1) := by show (_ ∧ _); omega
        have wa1 : IntKind.i64.wrap (r2 - r1) = r2 - r1 := IntWalk.i64_in _ (by omega)
        have wa2 : IntKind.i64.wrap (r2 - r1 + 1) = r2 - r1 + 1 := IntWalk.i64_in _ (by omega)
        have wb1 : IntKind.i64.wrap (c2 - c1) = c2 - c1 := IntWalk.i64_in _ (by omega)
        have wb2 : IntKind.i64.wrap (c2 - c1 + 1) = c2 - c1 + 1 := IntWalk.i64_in _ (by omega)
        go_wp2_with fail
        clear rd0 lt0 rd4 rd5
        have hS0 : S (w2.drewN nq).drew := held_in HS.out ⟨k4.drewN (nq + 1), k5.drewN (nq + 1), hT (nq + 1)⟩
        haveI : Nonempty (Held S) := ⟨⟨_, hS0⟩⟩
        refine wp_region_plan (S := S) 28 [(0, true), (1, true), (2, true), (3, true), (4, true), (5, true), (6, true), (7, true), (8, true), (9, true), (10, true), (11, true), (12, true), (13, true), (14, true), (15, true), (16, true), (17, true), (18, true), (19, true), (20, true), (21, true), (22, true), (23, true), (24, true), (25, true), (26, false), (27, false)] [28, 29, 30] (by kernel_rfl) (by kernel_rfl) hS0 ?_
        repeat (refine plan_q (by rfl) (by rfl) (fun K hK => ?_); go_simp; refine hK _ ?_; clear hK K)
        refine plan_a (i := 26) (by rfl) (by rfl) (fun K hK => ?_)
        go_simp
        have k4a := (k4.drewN (nq + 1)).alloc (.cells #[.int .i64 ((k : Int) + 1), .int .i64 (r1), .int .i64 (c1), .int .i64 (r2 - r1 + 1), .int .i64 (c2 - c1 + 1)] 65)
        have k5a := (k5.drewN (nq + 1)).alloc (.cells #[.int .i64 ((k : Int) + 1), .int .i64 (r1), .int .i64 (c1), .int .i64 (r2 - r1 + 1), .int .i64 (c2 - c1 + 1)] 65)
        have kya := (hT (nq + 1)).alloc (.cells #[.int .i64 ((k : Int) + 1), .int .i64 (r1), .int .i64 (c1), .int .i64 (r2 - r1 + 1), .int .i64 (c2 - c1 + 1)] 65)
        refine hK _ _ (held_in HS.out ⟨k4a, k5a, kya⟩) ?_
        clear hK K
        refine plan_a (i := 27) (by rfl) (by rfl) (fun K hK => ?_)
        refine op_ol_append info_one rfl Try.underlying60 (.tmp 49) (.tmp 71) (by rfl) (by rfl) (L := L) (m := 1) ((hO (nq + 1)).alloc _) (M := [⟨(k : Int) + 1, r1, c1, r2 - r1 + 1, c2 - c1 + 1⟩]) (A := some ⟨w2.heap.size, 0, none⟩) (c := 1) (by rfl) rfl (Lies.blk (Blk.new _ rfl 65 #[.int .i64 ((k : Int) + 1), .int .i64 (r1), .int .i64 (c1), .int .i64 (r2 - r1 + 1), .int .i64 (c2 - c1 + 1)]) rfl) m1 m2 (size1 (show B ≤ (w2.drewN (nq + 1)).heap.size from Nat.le_trans hBw hw.size) _) ?_
        intro v7 w7 hO7 hg7
        have k7 := Blk.grownX kya hg7 (fun e => hfar e.symm)
        have hg4 : some w.heap.size ≠ (Value.slice A L.length cap).ownBlock := fun e => by have := (h.lst.lt _ e.symm).2; omega
        have hg5 : some (w.heap.size + 1) ≠ (Value.slice A L.length cap).ownBlock := fun e => by have := (h.lst.lt _ e.symm).2; omega
        obtain ⟨A7, c7, hv7, _, _, _, _⟩ := hO7.see
        rw [List.length_append] at hv7
        subst hv7
        have HO7 := Lib.hid hO7
        have HG7 := Lib.hid hg7
        refine hK _ _ (held_in HS.out ⟨Blk.grownX k4a hg7 hg4, Blk.grownX k5a hg7 hg5, k7⟩) ?_
        clear hK K hO7 hg7
        refine plan_t ?_
        have rd7 := k7.rd
        have fz7 := k7.fz
        have lt7 := k7.lt
        refine tail_a (by rfl) (by rfl) (fun K hK => ?_)
        go_simp
        refine hK _ _ ?_
        clear hK K
        refine tail_a (by rfl) (by rfl) (fun K hK => ?_)
        go_simp
        refine hK _ _ ?_
        clear hK K
        refine tail_a (by rfl) (by rfl) (fun K hK => ?_)
        go_simp
        refine hK _ _ ?_
        clear hK K
        refine tail_nil ?_
        clear wa1 wa2 wb1 wb2
        go_wp2_with fail
        go_ret2
        exact ropen_end hw h h3 HG7.out HO7.out k7 hfar eM.out
      case inl.inr.inl =>
        have eM : Hid ((r1 : Int) = min r1 r2 ∧ (c1 : Int) = min c1 c1 ∧ r2 - r1 + 1 = max r1 r2 - min r1 r2 + 1 ∧ 1 = max c1 c1 - min c1 c1 + 1) := by show (_ ∧ _); omega
        have wa1 : IntKind.i64.wrap (r2 - r1) = r2 - r1 := IntWalk.i64_in _ (by omega)
        have wa2 : IntKind.i64.wrap (r2 - r1 + 1) = r2 - r1 + 1 := IntWalk.i64_in _ (by omega)
        go_wp2_with fail
        clear rd0 lt0 rd4 rd5
        have hS0 : S (w2.drewN nq).drew := held_in HS.out ⟨k4.drewN (nq + 1), k5.drewN (nq + 1), hT (nq + 1)⟩
        haveI : Nonempty (Held S) := ⟨⟨_, hS0⟩⟩
        refine wp_region_plan (S := S) 28 [(0, true), (1, true), (2, true), (3, true), (4, true), (5, true), (6, true), (7, true), (8, true), (9, true), (10, true), (11, true), (12, true), (13, true), (14, true), (15, true), (16, true), (17, true), (18, true), (19, true), (20, true), (21, true), (22, true), (23, true), (24, true), (25, true), (26, false), (27, false)] [28, 29, 30] (by kernel_rfl) (by kernel_rfl) hS0 ?_
        repeat (refine plan_q (by rfl) (by rfl) (fun K hK => ?_); go_simp; refine hK _ ?_; clear hK K)
        refine plan_a (i := 26) (by rfl) (by rfl) (fun K hK => ?_)
        go_simp
        have k4a := (k4.drewN (nq + 1)).alloc (.cells #[.int .i64 ((k : Int) + 1), .int .i64 (r1), .int .i64 (c1), .int .i64 (r2 - r1 + 1), .int .i64 (1)] 65)
        have k5a := (k5.drewN (nq + 1)).alloc (.cells #[.int .i64 ((k : Int) + 1), .int .i64 (r1), .int .i64 (c1), .int .i64 (r2 - r1 + 1), .int .i64 (1)] 65)
        have kya := (hT (nq + 1)).alloc (.cells #[.int .i64 ((k : Int) + 1), .int .i64 (r1), .int .i64 (c1), .int .i64 (r2 - r1 + 1), .int .i64 (1)] 65)
        refine hK _ _ (held_in HS.out ⟨k4a, k5a, kya⟩) ?_
        clear hK K
        refine plan_a (i := 27) (by rfl) (by rfl) (fun K hK => ?_)
        refine op_ol_append info_one rfl Try.underlying60 (.tmp 49) (.tmp 71) (by rfl) (by rfl) (L := L) (m := 1) ((hO (nq + 1)).alloc _) (M := [⟨(k : Int) + 1, r1, c1, r2 - r1 + 1, 1⟩]) (A := some ⟨w2.heap.size, 0, none⟩) (c := 1) (by rfl) rfl (Lies.blk (Blk.new _ rfl 65 #[.int .i64 ((k : Int) + 1), .int .i64 (r1), .int .i64 (c1), .int .i64 (r2 - r1 + 1), .int .i64 (1)]) rfl) m1 m2 (size1 (show B ≤ (w2.drewN (nq + 1)).heap.size from Nat.le_trans hBw hw.size) _) ?_
        intro v7 w7 hO7 hg7
        have k7 := Blk.grownX kya hg7 (fun e => hfar e.symm)
        have hg4 : some w.heap.size ≠ (Value.slice A L.length cap).ownBlock := fun e => by have := (h.lst.lt _ e.symm).2; omega
        have hg5 : some (w.heap.size + 1) ≠ (Value.slice A L.length cap).ownBlock := fun e => by have := (h.lst.lt _ e.symm).2; omega
        obtain ⟨A7, c7, hv7, _, _, _, _⟩ := hO7.see
        rw [List.length_append] at hv7
        subst hv7
        have HO7 := Lib.hid hO7
        have HG7 := Lib.hid hg7
        refine hK _ _ (held_in HS.out ⟨Blk.grownX k4a hg7 hg4, Blk.grownX k5a hg7 hg5, k7⟩) ?_
        clear hK K hO7 hg7
        refine plan_t ?_
        have rd7 := k7.rd
        have fz7 := k7.fz
        have lt7 := k7.lt
        refine tail_a (by rfl) (by rfl) (fun K hK => ?_)
        go_simp
        refine hK _ _ ?_
        clear hK K
        refine tail_a (by rfl) (by rfl) (fun K hK => ?_)
        go_simp
        refine hK _ _ ?_
        clear hK K
        refine tail_a (by rfl) (by rfl) (fun K hK => ?_)
        go_simp
        refine hK _ _ ?_
        clear hK K
        refine tail_nil ?_
        clear wa1 wa2
        go_wp2_with fail
        go_ret2
        exact ropen_end hw h h3 HG7.out HO7.out k7 hfar eM.out
      case inl.inr.inr =>
        have hc' : (if c1 < c2 then c2 else c1) = c1 := if_neg (by omega)
        have eM : Hid ((r1 : Int) = min r1 r2 ∧ (c2 : Int) = min c1 c2 ∧ r2 - r1 + 1 = max r1 r2 - min r1 r2 + 1 ∧ c1 - c2 + 1 = max c1 c2 - min c1 c2 + 1) := by show (_ ∧ _); omega
        have wa1 : IntKind.i64.wrap (r2 - r1) = r2 - r1 := IntWalk.i64_in _ (by omega)
        have wa2 : IntKind.i64.wrap (r2 - r1 + 1) = r2 - r1 + 1 := IntWalk.i64_in _ (by omega)
        have wb1 : IntKind.i64.wrap (c1 - c2) = c1 - c2 := IntWalk.i64_in _ (by omega)
        have wb2 : IntKind.i64.wrap (c1 - c2 + 1) = c1 - c2 + 1 := IntWalk.i64_in _ (by omega)
        go_wp2_with fail
        clear rd0 lt0 rd4 rd5
        have hS0 : S (w2.drewN nq).drew := held_in HS.out ⟨k4.drewN (nq + 1), k5.drewN (nq + 1), hT (nq + 1)⟩
        haveI : Nonempty (Held S) := ⟨⟨_, hS0⟩⟩
        refine wp_region_plan (S := S) 28 [(0, true), (1, true), (2, true), (3, true), (4, true), (5, true), (6, true), (7, true), (8, true), (9, true), (10, true), (11, true), (12, true), (13, true), (14, true), (15, true), (16, true), (17, true), (18, true), (19, true), (20, true), (21, true), (22, true), (23, true), (24, true), (25, true), (26, false), (27, false)] [28, 29, 30] (by kernel_rfl) (by kernel_rfl) hS0 ?_
        repeat (refine plan_q (by rfl) (by rfl) (fun K hK => ?_); go_simp; refine hK _ ?_; clear hK K)
        refine plan_a (i := 26) (by rfl) (by rfl) (fun K hK => ?_)
        go_simp
        have k4a := (k4.drewN (nq + 1)).alloc (.cells #[.int .i64 ((k : Int) + 1), .int .i64 (r1), .int .i64 (c2), .int .i64 (r2 - r1 + 1), .int .i64 (c1 - c2 + 1)] 65)
        have k5a := (k5.drewN (nq + 1)).alloc (.cells #[.int .i64 ((k : Int) + 1), .int .i64 (r1), .int .i64 (c2), .int .i64 (r2 - r1 + 1), .int .i64 (c1 - c2 + 1)] 65)
        have kya := (hT (nq + 1)).alloc (.cells #[.int .i64 ((k : Int) + 1), .int .i64 (r1), .int .i64 (c2), .int .i64 (r2 - r1 + 1), .int .i64 (c1 - c2 + 1)] 65)
        refine hK _ _ (held_in HS.out ⟨k4a, k5a, kya⟩) ?_
        clear hK K
        refine plan_a (i := 27) (by rfl) (by rfl) (fun K hK => ?_)
        refine op_ol_append info_one rfl Try.underlying60 (.tmp 49) (.tmp 71) (by rfl) (by rfl) (L := L) (m := 1) ((hO (nq + 1)).alloc _) (M := [⟨(k : Int) + 1, r1, c2, r2 - r1 + 1, c1 - c2 + 1⟩]) (A := some ⟨w2.heap.size, 0, none⟩) (c := 1) (by rfl) rfl (Lies.blk (Blk.new _ rfl 65 #[.int .i64 ((k : Int) + 1), .int .i64 (r1), .int .i64 (c2), .int .i64 (r2 - r1 + 1), .int .i64 (c1 - c2 + 1)]) rfl) m1 m2 (size1 (show B ≤ (w2.drewN (nq + 1)).heap.size from Nat.le_trans hBw hw.size) _) ?_
        intro v7 w7 hO7 hg7
        have k7 := Blk.grownX kya hg7 (fun e => hfar e.symm)
        have hg4 : some w.heap.size ≠ (Value.slice A L.length cap).ownBlock := fun e => by have := (h.lst.lt _ e.symm).2; omega
        have hg5 : some (w.heap.size + 1) ≠ (Value.slice A L.length cap).ownBlock := fun e => by have := (h.lst.lt _ e.symm).2; omega
        obtain ⟨A7, c7, hv7, _, _, _, _⟩ := hO7.see
        rw [List.length_append] at hv7
        subst hv7
        have HO7 := Lib.hid hO7
        have HG7 := Lib.hid hg7
        refine hK _ _ (held_in HS.out ⟨Blk.grownX k4a hg7 hg4, Blk.grownX k5a hg7 hg5, k7⟩) ?_
        clear hK K hO7 hg7
        refine plan_t ?_
        have rd7 := k7.rd
        have fz7 := k7.fz
        have lt7 := k7.lt
        refine tail_a (by rfl) (by rfl) (fun K hK => ?_)
        go_simp
        refine hK _ _ ?_
        clear hK K
        refine tail_a (by rfl) (by rfl) (fun K hK => ?_)
        go_simp
        refine hK _ _ ?_
        clear hK K
        refine tail_a (by rfl) (by rfl) (fun K hK => ?_)
        go_simp
        refine hK _ _ ?_
        clear hK K
        refine tail_nil ?_
        clear wa1 wa2 wb1 wb2
        go_wp2_with fail
        go_ret2
        exact ropen_end hw h h3 HG7.out HO7.out k7 hfar eM.out
      case inr.inl.inl =>
        have eM : Hid ((r1 : Int) = min r1 r1 ∧ (c1 : Int) = min c1 c2 ∧ 1 = max r1 r1 - min r1 r1 + 1 ∧ c2 - c1 + 1 = max c1 c2 - min c1 c2 + 1) := by show (_ ∧ _); omega
        have wb1 : IntKind.i64.wrap (c2 - c1) = c2 - c1 := IntWalk.i64_in _ (by omega)
        have wb2 : IntKind.i64.wrap (c2 - c1 + 1) = c2 - c1 + 1 := IntWalk.i64_in _ (by omega)
        go_wp2_with fail
        clear rd0 lt0 rd4 rd5
        have hS0 : S (w2.drewN nq).drew := held_in HS.out ⟨k4.drewN (nq + 1), k5.drewN (nq + 1), hT (nq + 1)⟩
        haveI : Nonempty (Held S) := ⟨⟨_, hS0⟩⟩
        refine wp_region_plan (S := S) 28 [(0, true), (1, true), (2, true), (3, true), (4, true), (5, true), (6, true), (7, true), (8, true), (9, true), (10, true), (11, true), (12, true), (13, true), (14, true), (15, true), (16, true), (17, true), (18, true), (19, true), (20, true), (21, true), (22, true), (23, true), (24, true), (25, true), (26, false), (27, false)] [28, 29, 30] (by kernel_rfl) (by kernel_rfl) hS0 ?_
        repeat (refine plan_q (by rfl) (by rfl) (fun K hK => ?_); go_simp; refine hK _ ?_; clear hK K)
        refine plan_a (i := 26) (by rfl) (by rfl) (fun K hK => ?_)
        go_simp
        have k4a := (k4.drewN (nq + 1)).alloc (.cells #[.int .i64 ((k : Int) + 1), .int .i64 (r1), .int .i64 (c1), .int .i64 (1), .int .i64 (c2 - c1 + 1)] 65)
        have k5a := (k5.drewN (nq + 1)).alloc (.cells #[.int .i64 ((k : Int) + 1), .int .i64 (r1), .int .i64 (c1), .int .i64 (1), .int .i64 (c2 - c1 + 1)] 65)
        have kya := (hT (nq + 1)).alloc (.cells #[.int .i64 ((k : Int) + 1), .int .i64 (r1), .int .i64 (c1), .int .i64 (1), .int .i64 (c2 - c1 + 1)] 65)
        refine hK _ _ (held_in HS.out ⟨k4a, k5a, kya⟩) ?_
        clear hK K
        refine plan_a (i := 27) (by rfl) (by rfl) (fun K hK => ?_)
        refine op_ol_append info_one rfl Try.underlying60 (.tmp 49) (.tmp 71) (by rfl) (by rfl) (L := L) (m := 1) ((hO (nq + 1)).alloc _) (M := [⟨(k : Int) + 1, r1, c1, 1, c2 - c1 + 1⟩]) (A := some ⟨w2.heap.size, 0, none⟩) (c := 1) (by rfl) rfl (Lies.blk (Blk.new _ rfl 65 #[.int .i64 ((k : Int) + 1), .int .i64 (r1), .int .i64 (c1), .int .i64 (1), .int .i64 (c2 - c1 + 1)]) rfl) m1 m2 (size1 (show B ≤ (w2.drewN (nq + 1)).heap.size from Nat.le_trans hBw hw.size) _) ?_
        intro v7 w7 hO7 hg7
        have k7 := Blk.grownX kya hg7 (fun e => hfar e.symm)
        have hg4 : some w.heap.size ≠ (Value.slice A L.length cap).ownBlock := fun e => by have := (h.lst.lt _ e.symm).2; omega
        have hg5 : some (w.heap.size + 1) ≠ (Value.slice A L.length cap).ownBlock := fun e => by have := (h.lst.lt _ e.symm).2; omega
        obtain ⟨A7, c7, hv7, _, _, _, _⟩ := hO7.see
        rw [List.length_append] at hv7
        subst hv7
        have HO7 := Lib.hid hO7
        have HG7 := Lib.hid hg7
        refine hK _ _ (held_in HS.out ⟨Blk.grownX k4a hg7 hg4, Blk.grownX k5a hg7 hg5, k7⟩) ?_
        clear hK K hO7 hg7
        refine plan_t ?_
        have rd7 := k7.rd
        have fz7 := k7.fz
        have lt7 := k7.lt
        refine tail_a (by rfl) (by rfl) (fun K hK => ?_)
        go_simp
        refine hK _ _ ?_
        clear hK K
        refine tail_a (by rfl) (by rfl) (fun K hK => ?_)
        go_simp
        refine hK _ _ ?_
        clear hK K
        refine tail_a (by rfl) (by rfl) (fun K hK => ?_)
        go_simp
        refine hK _ _ ?_
        clear hK K
        refine tail_nil ?_
        clear wb1 wb2
        go_wp2_with fail
        go_ret2
        exact ropen_end hw h h3 HG7.out HO7.out k7 hfar eM.out
      case inr.inl.inr.inl =>
        have eM : Hid ((r1 : Int) = min r1 r1 ∧ (c1 : Int) = min c1 c1 ∧ 1 = max r1 r1 - min r1 r1 + 1 ∧ 1 = max c1 c1 - min c1 c1 + 1) := by show (_ ∧ _); omega
        go_wp2_with fail
        clear rd0 lt0 rd4 rd5
        have hS0 : S (w2.drewN nq).drew := held_in HS.out ⟨k4.drewN (nq + 1), k5.drewN (nq + 1), hT (nq + 1)⟩
        haveI : Nonempty (Held S) := ⟨⟨_, hS0⟩⟩
        refine wp_region_plan (S := S) 28 [(0, true), (1, true), (2, true), (3, true), (4, true), (5, true), (6, true), (7, true), (8, true), (9, true), (10, true), (11, true), (12, true), (13, true), (14, true), (15, true), (16, true), (17, true), (18, true), (19, true), (20, true), (21, true), (22, true), (23, true), (24, true), (25, true), (26, false), (27, false)] [28, 29, 30] (by kernel_rfl) (by kernel_rfl) hS0 ?_
        repeat (refine plan_q (by rfl) (by rfl) (fun K hK => ?_); go_simp; refine hK _ ?_; clear hK K)
        refine plan_a (i := 26) (by rfl) (by rfl) (fun K hK => ?_)
        go_simp
        have k4a := (k4.drewN (nq + 1)).alloc (.cells #[.int .i64 ((k : Int) + 1), .int .i64 (r1), .int .i64 (c1), .int .i64 (1), .int .i64 (1)] 65)
        have k5a := (k5.drewN (nq + 1)).alloc (.cells #[.int .i64 ((k : Int) + 1), .int .i64 (r1), .int .i64 (c1), .int .i64 (1), .int .i64 (1)] 65)
        have kya := (hT (nq + 1)).alloc (.cells #[.int .i64 ((k : Int) + 1), .int .i64 (r1), .int .i64 (c1), .int .i64 (1), .int .i64 (1)] 65)
        refine hK _ _ (held_in HS.out ⟨k4a, k5a, kya⟩) ?_
        clear hK K
        refine plan_a (i := 27) (by rfl) (by rfl) (fun K hK => ?_)
        refine op_ol_append info_one rfl Try.underlying60 (.tmp 49) (.tmp 71) (by rfl) (by rfl) (L := L) (m := 1) ((hO (nq + 1)).alloc _) (M := [⟨(k : Int) + 1, r1, c1, 1, 1⟩]) (A := some ⟨w2.heap.size, 0, none⟩) (c := 1) (by rfl) rfl (Lies.blk (Blk.new _ rfl 65 #[.int .i64 ((k : Int) + 1), .int .i64 (r1), .int .i64 (c1), .int .i64 (1), .int .i64 (1)]) rfl) m1 m2 (size1 (show B ≤ (w2.drewN (nq + 1)).heap.size from Nat.le_trans hBw hw.size) _) ?_
        intro v7 w7 hO7 hg7
        have k7 := Blk.grownX kya hg7 (fun e => hfar e.symm)
        have hg4 : some w.heap.size ≠ (Value.slice A L.length cap).ownBlock := fun e => by have := (h.lst.lt _ e.symm).2; omega
        have hg5 : some (w.heap.size + 1) ≠ (Value.slice A L.length cap).ownBlock := fun e => by have := (h.lst.lt _ e.symm).2; omega
        obtain ⟨A7, c7, hv7, _, _, _, _⟩ := hO7.see
        rw [List.length_append] at hv7
        subst hv7
        have HO7 := Lib.hid hO7
        have HG7 := Lib.hid hg7
        refine hK _ _ (held_in HS.out ⟨Blk.grownX k4a hg7 hg4, Blk.grownX k5a hg7 hg5, k7⟩) ?_
        clear hK K hO7 hg7
        refine plan_t ?_
        have rd7 := k7.rd
        have fz7 := k7.fz
        have lt7 := k7.lt
        refine tail_a (by rfl) (by rfl) (fun K hK => ?_)
        go_simp
        refine hK _ _ ?_
        clear hK K
        refine tail_a (by rfl) (by rfl) (fun K hK => ?_)
        go_simp
        refine hK _ _ ?_
        clear hK K
        refine tail_a (by rfl) (by rfl) (fun K hK => ?_)
        go_simp
        refine hK _ _ ?_
        clear hK K
        refine tail_nil ?_
        go_wp2_with fail
        go_ret2
        exact ropen_end hw h h3 HG7.out HO7.out k7 hfar eM.out
      case inr.inl.inr.inr =>
        have hc' : (if c1 < c2 then c2 else c1) = c1 := if_neg (by omega)
        have eM : Hid ((r1 : Int) = min r1 r1 ∧ (c2 : Int) = min c1 c2 ∧ 1 = max r1 r1 - min r1 r1 + 1 ∧ c1 - c2 + 1 = max c1 c2 - min c1 c2 + 1) := by show (_ ∧ _); omega
        have wb1 : IntKind.i64.wrap (c1 - c2) = c1 - c2 := IntWalk.i64_in _ (by omega)
        have wb2 : IntKind.i64.wrap (c1 - c2 + 1) = c1 - c2 + 1 := IntWalk.i64_in _ (by omega)
        go_wp2_with fail
        clear rd0 lt0 rd4 rd5
        have hS0 : S (w2.drewN nq).drew := held_in HS.out ⟨k4.drewN (nq + 1), k5.drewN (nq + 1), hT (nq + 1)⟩
        haveI : Nonempty (Held S) := ⟨⟨_, hS0⟩⟩
        refine wp_region_plan (S := S) 28 [(0, true), (1, true), (2, true), (3, true), (4, true), (5, true), (6, true), (7, true), (8, true), (9, true), (10, true), (11, true), (12, true), (13, true), (14, true), (15, true), (16, true), (17, true), (18, true), (19, true), (20, true), (21, true), (22, true), (23, true), (24, true), (25, true), (26, false), (27, false)] [28, 29, 30] (by kernel_rfl) (by kernel_rfl) hS0 ?_
        repeat (refine plan_q (by rfl) (by rfl) (fun K hK => ?_); go_simp; refine hK _ ?_; clear hK K)
        refine plan_a (i := 26) (by rfl) (by rfl) (fun K hK => ?_)
        go_simp
        have k4a := (k4.drewN (nq + 1)).alloc (.cells #[.int .i64 ((k : Int) + 1), .int .i64 (r1), .int .i64 (c2), .int .i64 (1), .int .i64 (c1 - c2 + 1)] 65)
        have k5a := (k5.drewN (nq + 1)).alloc (.cells #[.int .i64 ((k : Int) + 1), .int .i64 (r1), .int .i64 (c2), .int .i64 (1), .int .i64 (c1 - c2 + 1)] 65)
        have kya := (hT (nq + 1)).alloc (.cells #[.int .i64 ((k : Int) + 1), .int .i64 (r1), .int .i64 (c2), .int .i64 (1), .int .i64 (c1 - c2 + 1)] 65)
        refine hK _ _ (held_in HS.out ⟨k4a, k5a, kya⟩) ?_
        clear hK K
        refine plan_a (i := 27) (by rfl) (by rfl) (fun K hK => ?_)
        refine op_ol_append info_one rfl Try.underlying60 (.tmp 49) (.tmp 71) (by rfl) (by rfl) (L := L) (m := 1) ((hO (nq + 1)).alloc _) (M := [⟨(k : Int) + 1, r1, c2, 1, c1 - c2 + 1⟩]) (A := some ⟨w2.heap.size, 0, none⟩) (c := 1) (by rfl) rfl (Lies.blk (Blk.new _ rfl 65 #[.int .i64 ((k : Int) + 1), .int .i64 (r1), .int .i64 (c2), .int .i64 (1), .int .i64 (c1 - c2 + 1)]) rfl) m1 m2 (size1 (show B ≤ (w2.drewN (nq + 1)).heap.size from Nat.le_trans hBw hw.size) _) ?_
        intro v7 w7 hO7 hg7
        have k7 := Blk.grownX kya hg7 (fun e => hfar e.symm)
        have hg4 : some w.heap.size ≠ (Value.slice A L.length cap).ownBlock := fun e => by have := (h.lst.lt _ e.symm).2; omega
        have hg5 : some (w.heap.size + 1) ≠ (Value.slice A L.length cap).ownBlock := fun e => by have := (h.lst.lt _ e.symm).2; omega
        obtain ⟨A7, c7, hv7, _, _, _, _⟩ := hO7.see
        rw [List.length_append] at hv7
        subst hv7
        have HO7 := Lib.hid hO7
        have HG7 := Lib.hid hg7
        refine hK _ _ (held_in HS.out ⟨Blk.grownX k4a hg7 hg4, Blk.grownX k5a hg7 hg5, k7⟩) ?_
        clear hK K hO7 hg7
        refine plan_t ?_
        have rd7 := k7.rd
        have fz7 := k7.fz
        have lt7 := k7.lt
        refine tail_a (by rfl) (by rfl) (fun K hK => ?_)
        go_simp
        refine hK _ _ ?_
        clear hK K
        refine tail_a (by rfl) (by rfl) (fun K hK => ?_)
        go_simp
        refine hK _ _ ?_
        clear hK K
        refine tail_a (by rfl) (by rfl) (fun K hK => ?_)
        go_simp
        refine hK _ _ ?_
        clear hK K
        refine tail_nil ?_
        clear wb1 wb2
        go_wp2_with fail
        go_ret2
        exact ropen_end hw h h3 HG7.out HO7.out k7 hfar eM.out
      case inr.inr.inl =>
        have hr' : (if r1 < r2 then r2 else r1) = r1 := if_neg (by omega)
        have eM : Hid ((r2 : Int) = min r1 r2 ∧ (c1 : Int) = min c1 c2 ∧ r1 - r2 + 1 = max r1 r2 - min r1 r2 + 1 ∧ c2 - c1 + 1 = max c1 c2 - min c1 c2 + 1) := by show (_ ∧ _); omega
        have wa1 : IntKind.i64.wrap (r1 - r2) = r1 - r2 := IntWalk.i64_in _ (by omega)
        have wa2 : IntKind.i64.wrap (r1 - r2 + 1) = r1 - r2 + 1 := IntWalk.i64_in _ (by omega)
        have wb1 : IntKind.i64.wrap (c2 - c1) = c2 - c1 := IntWalk.i64_in _ (by omega)
        have wb2 : IntKind.i64.wrap (c2 - c1 + 1) = c2 - c1 + 1 := IntWalk.i64_in _ (by omega)
        go_wp2_with fail
        clear rd0 lt0 rd4 rd5
        have hS0 : S (w2.drewN nq).drew := held_in HS.out ⟨k4.drewN (nq + 1), k5.drewN (nq + 1), hT (nq + 1)⟩
        haveI : Nonempty (Held S) := ⟨⟨_, hS0⟩⟩
        refine wp_region_plan (S := S) 28 [(0, true), (1, true), (2, true), (3, true), (4, true), (5, true), (6, true), (7, true), (8, true), (9, true), (10, true), (11, true), (12, true), (13, true), (14, true), (15, true), (16, true), (17, true), (18, true), (19, true), (20, true), (21, true), (22, true), (23, true), (24, true), (25, true), (26, false), (27, false)] [28, 29, 30] (by kernel_rfl) (by kernel_rfl) hS0 ?_
        repeat (refine plan_q (by rfl) (by rfl) (fun K hK => ?_); go_simp; refine hK _ ?_; clear hK K)
        refine plan_a (i := 26) (by rfl) (by rfl) (fun K hK => ?_)
        go_simp
        have k4a := (k4.drewN (nq + 1)).alloc (.cells #[.int .i64 ((k : Int) + 1), .int .i64 (r2), .int .i64 (c1), .int .i64 (r1 - r2 + 1), .int .i64 (c2 - c1 + 1)] 65)
        have k5a := (k5.drewN (nq + 1)).alloc (.cells #[.int .i64 ((k : Int) + 1), .int .i64 (r2), .int .i64 (c1), .int .i64 (r1 - r2 + 1), .int .i64 (c2 - c1 + 1)] 65)
        have kya := (hT (nq + 1)).alloc (.cells #[.int .i64 ((k : Int) + 1), .int .i64 (r2), .int .i64 (c1), .int .i64 (r1 - r2 + 1), .int .i64 (c2 - c1 + 1)] 65)
        refine hK _ _ (held_in HS.out ⟨k4a, k5a, kya⟩) ?_
        clear hK K
        refine plan_a (i := 27) (by rfl) (by rfl) (fun K hK => ?_)
        refine op_ol_append info_one rfl Try.underlying60 (.tmp 49) (.tmp 71) (by rfl) (by rfl) (L := L) (m := 1) ((hO (nq + 1)).alloc _) (M := [⟨(k : Int) + 1, r2, c1, r1 - r2 + 1, c2 - c1 + 1⟩]) (A := some ⟨w2.heap.size, 0, none⟩) (c := 1) (by rfl) rfl (Lies.blk (Blk.new _ rfl 65 #[.int .i64 ((k : Int) + 1), .int .i64 (r2), .int .i64 (c1), .int .i64 (r1 - r2 + 1), .int .i64 (c2 - c1 + 1)]) rfl) m1 m2 (size1 (show B ≤ (w2.drewN (nq + 1)).heap.size from Nat.le_trans hBw hw.size) _) ?_
        intro v7 w7 hO7 hg7
        have k7 := Blk.grownX kya hg7 (fun e => hfar e.symm)
        have hg4 : some w.heap.size ≠ (Value.slice A L.length cap).ownBlock := fun e => by have := (h.lst.lt _ e.symm).2; omega
        have hg5 : some (w.heap.size + 1) ≠ (Value.slice A L.length cap).ownBlock := fun e => by have := (h.lst.lt _ e.symm).2; omega
        obtain ⟨A7, c7, hv7, _, _, _, _⟩ := hO7.see
        rw [List.length_append] at hv7
        subst hv7
        have HO7 := Lib.hid hO7
        have HG7 := Lib.hid hg7
        refine hK _ _ (held_in HS.out ⟨Blk.grownX k4a hg7 hg4, Blk.grownX k5a hg7 hg5, k7⟩) ?_
        clear hK K hO7 hg7
        refine plan_t ?_
        have rd7 := k7.rd
        have fz7 := k7.fz
        have lt7 := k7.lt
        refine tail_a (by rfl) (by rfl) (fun K hK => ?_)
        go_simp
        refine hK _ _ ?_
        clear hK K
        refine tail_a (by rfl) (by rfl) (fun K hK => ?_)
        go_simp
        refine hK _ _ ?_
        clear hK K
        refine tail_a (by rfl) (by rfl) (fun K hK => ?_)
        go_simp
        refine hK _ _ ?_
        clear hK K
        refine tail_nil ?_
        clear wa1 wa2 wb1 wb2
        go_wp2_with fail
        go_ret2
        exact ropen_end hw h h3 HG7.out HO7.out k7 hfar eM.out
      case inr.inr.inr.inl =>
        have hr' : (if r1 < r2 then r2 else r1) = r1 := if_neg (by omega)
        have eM : Hid ((r2 : Int) = min r1 r2 ∧ (c1 : Int) = min c1 c1 ∧ r1 - r2 + 1 = max r1 r2 - min r1 r2 + 1 ∧ 1 = max c1 c1 - min c1 c1 + 1) := by show (_ ∧ _); omega
        have wa1 : IntKind.i64.wrap (r1 - r2) = r1 - r2 := IntWalk.i64_in _ (by omega)
        have wa2 : IntKind.i64.wrap (r1 - r2 + 1) = r1 - r2 + 1 := IntWalk.i64_in _ (by omega)
        go_wp2_with fail
        clear rd0 lt0 rd4 rd5
        have hS0 : S (w2.drewN nq).drew := held_in HS.out ⟨k4.drewN (nq + 1), k5.drewN (nq + 1), hT (nq + 1)⟩
        haveI : Nonempty (Held S) := ⟨⟨_, hS0⟩⟩
        refine wp_region_plan (S := S) 28 [(0, true), (1, true), (2, true), (3, true), (4, true), (5, true), (6, true), (7, true), (8, true), (9, true), (10, true), (11, true), (12, true), (13, true), (14, true), (15, true), (16, true), (17, true), (18, true), (19, true), (20, true), (21, true), (22, true), (23, true), (24, true), (25, true), (26, false), (27, false)] [28, 29, 30] (by kernel_rfl) (by kernel_rfl) hS0 ?_
        repeat (refine plan_q (by rfl) (by rfl) (fun K hK => ?_); go_simp; refine hK _ ?_; clear hK K)
        refine plan_a (i := 26) (by rfl) (by rfl) (fun K hK => ?_)
        go_simp
        have k4a := (k4.drewN (nq + 1)).alloc (.cells #[.int .i64 ((k : Int) + 1), .int .i64 (r2), .int .i64 (c1), .int .i64 (r1 - r2 + 1), .int .i64 (1)] 65)
        have k5a := (k5.drewN (nq + 1)).alloc (.cells #[.int .i64 ((k : Int) + 1), .int .i64 (r2), .int .i64 (c1), .int .i64 (r1 - r2 + 1), .int .i64 (1)] 65)
        have kya := (hT (nq + 1)).alloc (.cells #[.int .i64 ((k : Int) + 1), .int .i64 (r2), .int .i64 (c1), .int .i64 (r1 - r2 + 1), .int .i64 (1)] 65)
        refine hK _ _ (held_in HS.out ⟨k4a, k5a, kya⟩) ?_
        clear hK K
        refine plan_a (i := 27) (by rfl) (by rfl) (fun K hK => ?_)
        refine op_ol_append info_one rfl Try.underlying60 (.tmp 49) (.tmp 71) (by rfl) (by rfl) (L := L) (m := 1) ((hO (nq + 1)).alloc _) (M := [⟨(k : Int) + 1, r2, c1, r1 - r2 + 1, 1⟩]) (A := some ⟨w2.heap.size, 0, none⟩) (c := 1) (by rfl) rfl (Lies.blk (Blk.new _ rfl 65 #[.int .i64 ((k : Int) + 1), .int .i64 (r2), .int .i64 (c1), .int .i64 (r1 - r2 + 1), .int .i64 (1)]) rfl) m1 m2 (size1 (show B ≤ (w2.drewN (nq + 1)).heap.size from Nat.le_trans hBw hw.size) _) ?_
        intro v7 w7 hO7 hg7
        have k7 := Blk.grownX kya hg7 (fun e => hfar e.symm)
        have hg4 : some w.heap.size ≠ (Value.slice A L.length cap).ownBlock := fun e => by have := (h.lst.lt _ e.symm).2; omega
        have hg5 : some (w.heap.size + 1) ≠ (Value.slice A L.length cap).ownBlock := fun e => by have := (h.lst.lt _ e.symm).2; omega
        obtain ⟨A7, c7, hv7, _, _, _, _⟩ := hO7.see
        rw [List.length_append] at hv7
        subst hv7
        have HO7 := Lib.hid hO7
        have HG7 := Lib.hid hg7
        refine hK _ _ (held_in HS.out ⟨Blk.grownX k4a hg7 hg4, Blk.grownX k5a hg7 hg5, k7⟩) ?_
        clear hK K hO7 hg7
        refine plan_t ?_
        have rd7 := k7.rd
        have fz7 := k7.fz
        have lt7 := k7.lt
        refine tail_a (by rfl) (by rfl) (fun K hK => ?_)
        go_simp
        refine hK _ _ ?_
        clear hK K
        refine tail_a (by rfl) (by rfl) (fun K hK => ?_)
        go_simp
        refine hK _ _ ?_
        clear hK K
        refine tail_a (by rfl) (by rfl) (fun K hK => ?_)
        go_simp
        refine hK _ _ ?_
        clear hK K
        refine tail_nil ?_
        clear wa1 wa2
        go_wp2_with fail
        go_ret2
        exact ropen_end hw h h3 HG7.out HO7.out k7 hfar eM.out
      case inr.inr.inr.inr =>
        have hr' : (if r1 < r2 then r2 else r1) = r1 := if_neg (by omega)
        have hc' : (if c1 < c2 then c2 else c1) = c1 := if_neg (by omega)
        have eM : Hid ((r2 : Int) = min r1 r2 ∧ (c2 : Int) = min c1 c2 ∧ r1 - r2 + 1 = max r1 r2 - min r1 r2 + 1 ∧ c1 - c2 + 1 = max c1 c2 - min c1 c2 + 1) := by show (_ ∧ _); omega
        have wa1 : IntKind.i64.wrap (r1 - r2) = r1 - r2 := IntWalk.i64_in _ (by omega)
        have wa2 : IntKind.i64.wrap (r1 - r2 + 1) = r1 - r2 + 1 := IntWalk.i64_in _ (by omega)
        have wb1 : IntKind.i64.wrap (c1 - c2) = c1 - c2 := IntWalk.i64_in _ (by omega)
        have wb2 : IntKind.i64.wrap (c1 - c2 + 1) = c1 - c2 + 1 := IntWalk.i64_in _ (by omega)
        go_wp2_with fail
        clear rd0 lt0 rd4 rd5
        have hS0 : S (w2.drewN nq).drew := held_in HS.out ⟨k4.drewN (nq + 1), k5.drewN (nq + 1), hT (nq + 1)⟩
        haveI : Nonempty (Held S) := ⟨⟨_, hS0⟩⟩
        refine wp_region_plan (S := S) 28 [(0, true), (1, true), (2, true), (3, true), (4, true), (5, true), (6, true), (7, true), (8, true), (9, true), (10, true), (11, true), (12, true), (13, true), (14, true), (15, true), (16, true), (17, true), (18, true), (19, true), (20, true), (21, true), (22, true), (23, true), (24, true), (25, true), (26, false), (27, false)] [28, 29, 30] (by kernel_rfl) (by kernel_rfl) hS0 ?_
        repeat (refine plan_q (by rfl) (by rfl) (fun K hK => ?_); go_simp; refine hK _ ?_; clear hK K)
        refine plan_a (i := 26) (by rfl) (by rfl) (fun K hK => ?_)
        go_simp
        have k4a := (k4.drewN (nq + 1)).alloc (.cells #[.int .i64 ((k : Int) + 1), .int .i64 (r2), .int .i64 (c2), .int .i64 (r1 - r2 + 1), .int .i64 (c1 - c2 + 1)] 65)
        have k5a := (k5.drewN (nq + 1)).alloc (.cells #[.int .i64 ((k : Int) + 1), .int .i64 (r2), .int .i64 (c2), .int .i64 (r1 - r2 + 1), .int .i64 (c1 - c2 + 1)] 65)
        have kya := (hT (nq + 1)).alloc (.cells #[.int .i64 ((k : Int) + 1), .int .i64 (r2), .int .i64 (c2), .int .i64 (r1 - r2 + 1), .int .i64 (c1 - c2 + 1)] 65)
        refine hK _ _ (held_in HS.out ⟨k4a, k5a, kya⟩) ?_
        clear hK K
        refine plan_a (i := 27) (by rfl) (by rfl) (fun K hK => ?_)
        refine op_ol_append info_one rfl Try.underlying60 (.tmp 49) (.tmp 71) (by rfl) (by rfl) (L := L) (m := 1) ((hO (nq + 1)).alloc _) (M := [⟨(k : Int) + 1, r2, c2, r1 - r2 + 1, c1 - c2 + 1⟩]) (A := some ⟨w2.heap.size, 0, none⟩) (c := 1) (by rfl) rfl (Lies.blk (Blk.new _ rfl 65 #[.int .i64 ((k : Int) + 1), .int .i64 (r2), .int .i64 (c2), .int .i64 (r1 - r2 + 1), .int .i64 (c1 - c2 + 1)]) rfl) m1 m2 (size1 (show B ≤ (w2.drewN (nq + 1)).heap.size from Nat.le_trans hBw hw.size) _) ?_
        intro v7 w7 hO7 hg7
        have k7 := Blk.grownX kya hg7 (fun e => hfar e.symm)
        have hg4 : some w.heap.size ≠ (Value.slice A L.length cap).ownBlock := fun e => by have := (h.lst.lt _ e.symm).2; omega
        have hg5 : some (w.heap.size + 1) ≠ (Value.slice A L.length cap).ownBlock := fun e => by have := (h.lst.lt _ e.symm).2; omega
        obtain ⟨A7, c7, hv7, _, _, _, _⟩ := hO7.see
        rw [List.length_append] at hv7
        subst hv7
        have HO7 := Lib.hid hO7
        have HG7 := Lib.hid hg7
        refine hK _ _ (held_in HS.out ⟨Blk.grownX k4a hg7 hg4, Blk.grownX k5a hg7 hg5, k7⟩) ?_
        clear hK K hO7 hg7
        refine plan_t ?_
        have rd7 := k7.rd
        have fz7 := k7.fz
        have lt7 := k7.lt
        refine tail_a (by rfl) (by rfl) (fun K hK => ?_)
        go_simp
        refine hK _ _ ?_
        clear hK K
        refine tail_a (by rfl) (by rfl) (fun K hK => ?_)
        go_simp
        refine hK _ _ ?_
        clear hK K
        refine tail_a (by rfl) (by rfl) (fun K hK => ?_)
        go_simp
        refine hK _ _ ?_
        clear hK K
        refine tail_nil ?_
        clear wa1 wa2 wb1 wb2
        go_wp2_with fail
        go_ret2
        exact ropen_end hw h h3 HG7.out HO7.out k7 hfar eM.out

end
end Go.Proofs.Ytocglcngfgpfnaa

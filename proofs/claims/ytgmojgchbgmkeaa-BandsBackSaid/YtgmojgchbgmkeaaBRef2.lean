/-
  The document's bands: contract of Add. Conditions: those of each theorem.
-/
import Derived.Test.YtgmojgchbgmkeaaBRef
namespace Go.Proofs.Ytgmojgchbgmkeaa
open Go.ChangeShapes Go.WideShapes Go.ChangeAt Go.RowKit Go.Deep Go.Sort

/-- What the document holds: block yb, the list of L, its cells from B on. -/
structure RB (w : World) (yb B : Nat) (L : List Pr) (A : Option Addr) (cap : Nat) : Prop where
  top : Blk w yb 28 #[.slice A L.length cap]
  lst : OL KE w B (.slice A L.length cap) L
section
variable {w w' : World} {yb B : Nat} {L : List Pr} {A : Option Addr} {cap : Nat}
theorem RB.kept {row : Option Nat} (h : RB w yb B L A cap) (hg : w.grownBy w' row) (h1 : some yb ≠ row) (h2 : ∀ g, Value.ownBlock (.slice A L.length cap) = some g → row ≠ some g) : RB w' yb B L A cap := ⟨h.top.grownX hg h1, h.lst.grown hg h2⟩
theorem RB.below (h : RB w yb B L A cap) (hb : Below w.heap.size w w') : RB w' yb B L A cap := h.kept (row := none) (grown_of_below hb none) (by simp) (by simp)
theorem rb_see (h : OL KE w B (.slice A L.length cap) L) : L.length ≤ cap ∧ Lies KE w A L ∧ (A = none ∨ ∃ g, A = some ⟨g, 0, none⟩ ∧ B ≤ g ∧ g < w.heap.size) := by
  obtain ⟨A', cap', hv, h1, _, h2, h3⟩ := h.see
  injection hv with hv1 _ hv3
  rw [hv1, hv3]
  exact ⟨h1, h2, h3⟩
theorem edge_at (h : Lies KE w A L) {i : Nat} {x : Pr} (hx : L[i]? = some x) : ∃ g off, A = some ⟨g, off, none⟩ ∧ g < w.heap.size ∧ w.cell? ⟨g, off + i * 7, none⟩ = some (.int .i64 x.row) ∧ w.cell? ⟨g, off + i * 7 + 1, none⟩ = some (.int .i64 x.col) ∧ w.cell? ⟨g, off + i * 7 + 2, none⟩ = some (.bool true) ∧ w.cell? ⟨g, off + i * 7 + 3, none⟩ = some (.int .i64 x.t) ∧ w.cell? ⟨g, off + i * 7 + 4, none⟩ = some (.int .i64 x.l) ∧ w.cell? ⟨g, off + i * 7 + 5, none⟩ = some (.int .i64 x.b) ∧ w.cell? ⟨g, off + i * 7 + 6, none⟩ = some (.int .i64 x.r) := by
  obtain ⟨g, off, h1, h2, h3⟩ := h i x hx
  exact ⟨g, off, h1, h2, h3 0 _ rfl, h3 1 _ rfl, h3 2 _ rfl, h3 3 _ rfl, h3 4 _ rfl, h3 5 _ rfl, h3 6 _ rfl⟩
end
/-- What the document's Add answers. -/
def RAddIs (w : World) (yb B : Nat) (L : List Pr) (p : Pr) (e : Ending) (w' : World) : Prop :=
  (p ∈ L ∧ e = .returned (.bool false) ∧ Below w.heap.size w w') ∨ (p ∉ L ∧ e = .returned (.bool true) ∧ (∃ A' cap', RB w' yb B (insP p L) A' cap') ∧ w.grownBy w' (some yb))
theorem ins_len {p : Pr} {L : List Pr} {k : Nat} (hk : cbP p L = k) : (L.take k ++ [p] ++ L.drop k).length = L.length + 1 := by
  have := cbP_le p L
  simp
  omega
theorem ins_see {p : Pr} {L : List Pr} {k : Nat} {w : World} {B : Nat} {v : Value} (hk : cbP p L = k) (h : OL KE w B v (L.take k ++ [p] ++ L.drop k)) : ∃ A c, v = .slice A (L.length + 1) c := by
  obtain ⟨A, c, hv, _⟩ := h.see
  rw [ins_len hk] at hv
  exact ⟨A, c, hv⟩
theorem ins_done {p : Pr} {L : List Pr} {k c9 : Nat} {w w9 : World} {yb B cap : Nat} {A A9 : Option Addr} (hn : p ∉ L) (h : RB w yb B L A cap) (hk : cbP p L = k) (hBw : B ≤ w.heap.size) (hO : OL KE w9 w.heap.size (.slice A9 (L.length + 1) c9) (L.take k ++ [p] ++ L.drop k)) (hB : Below w.heap.size w w9) :
    RAddIs w yb B L p (.returned (.bool true)) (w9.setCell ⟨yb, 0, none⟩ (.slice A9 (L.length + 1) c9)) := by
  have hyb := h.top.lt
  refine .inr ⟨hn, rfl, ⟨A9, c9, ⟨?_, ?_⟩⟩, grown_set (grown_of_below hB _) (.inl rfl) _⟩
  · unfold insP
    rw [hk, ins_len hk]
    exact (h.top.below hB).put 0 _
  · unfold insP
    rw [hk, ins_len hk]
    exact (hO.low hBw).set (fun z hz e => by have := (hO.lt z hz).1; omega) 0 _
set_option maxHeartbeats 1600000 in
theorem eql_edge (w : World) (xw xc xt xl xb xr yw yc yt yl yb yr : Int) : (binOp .eql 47 (.agg #[.int .i64 xw, .int .i64 xc, .bool true, .int .i64 xt, .int .i64 xl, .int .i64 xb, .int .i64 xr]) (.agg #[.int .i64 yw, .int .i64 yc, .bool true, .int .i64 yt, .int .i64 yl, .int .i64 yb, .int .i64 yr])).run Try.prog w = .ok (.bool (decide ((⟨xw, xc, xt, xl, xb, xr⟩ : Pr) = ⟨yw, yc, yt, yl, yb, yr⟩))) w := by
  have h : (Op.equalIn (9996 + 4) 47 (.agg #[.int .i64 xw, .int .i64 xc, .bool true, .int .i64 xt, .int .i64 xl, .int .i64 xb, .int .i64 xr]) (.agg #[.int .i64 yw, .int .i64 yc, .bool true, .int .i64 yt, .int .i64 yl, .int .i64 yb, .int .i64 yr])).run Try.prog w = .ok (decide ((⟨xw, xc, xt, xl, xb, xr⟩ : Pr) = ⟨yw, yc, yt, yl, yb, yr⟩)) w := by
    by_cases h1 : xw = yw
    case neg => simp [go_sem, h1]
    subst h1
    by_cases h2 : xc = yc
    case neg => simp [go_sem, h2]
    subst h2
    by_cases h3 : xt = yt
    case neg => simp [go_sem, h3]
    subst h3
    by_cases h4 : xl = yl
    case neg => simp [go_sem, h4]
    subst h4
    by_cases h5 : xb = yb
    case neg => simp [go_sem, h5]
    subst h5
    by_cases h6 : xr = yr
    case neg => simp [go_sem, h6]
    subst h6
    simp [go_sem]
  rw [run_eql_struct, show (10000 : Nat) = 9996 + 4 from rfl, h]
  rfl

set_option maxHeartbeats 3200000 in
set_option maxRecDepth 100000 in
theorem radd_bad (yb : Nat) (t l b r row col : Int) (w : World) (hno : ¬ okP (⟨row, col, t, l, b, r⟩ : Pr)) :
    Calls Try.prog 9 #[.pointer (some ⟨yb, 0, none⟩), .agg #[.int .i64 t, .int .i64 l, .int .i64 b, .int .i64 r], .agg #[.int .i64 row, .int .i64 col]] w fun e w' => e = .returned (.bool false) ∧ Below w.heap.size w w' := by
  go_enter Try.func9, Try.ntmps9
  go_wp2_with fail
  refine (rmayrect_any t l b r _).mono ?_
  rintro e w1 ⟨rfl, hb1⟩
  have k4 := ((Blk.new w rfl 31 #[.int .i64 t, .int .i64 l, .int .i64 b, .int .i64 r]).alloc (.cells #[.int .i64 row, .int .i64 col] 33)).below hb1
  have k5 := (Blk.new (w.alloc (.cells #[.int .i64 t, .int .i64 l, .int .i64 b, .int .i64 r] 31)) (g := w.heap.size + 1) (by simp) 33 #[.int .i64 row, .int .i64 col]).below hb1
  have hW := bel_call (bel_alloc (bel_alloc (bel_refl w) (.cells #[.int .i64 t, .int .i64 l, .int .i64 b, .int .i64 r] 31)) (.cells #[.int .i64 row, .int .i64 col] 33)) hb1
  clear hb1
  have rd4 := k4.rd
  have lt4 := k4.lt
  have rd5 := k5.rd
  have lt5 := k5.lt
  cases e1 : mayR t l b r with
  | false =>
    go_wp2_with fail
    go_ret
    exact ⟨rfl, hW⟩
  | true =>
    have e2 : mayB row col = false := by
      cases e2 : mayB row col with
      | false => rfl
      | true => exact absurd ⟨e1, e2⟩ hno
    go_wp2_with fail
    refine (rmay_any row col _).mono ?_
    rintro e w6 ⟨rfl, hb6⟩
    have hB6 := bel_call hW hb6
    clear hb6
    rw [e2]
    go_wp2_with fail
    go_ret
    exact ⟨rfl, hB6⟩

set_option maxHeartbeats 6400000 in
set_option maxRecDepth 100000 in
theorem radd_ok (yb B : Nat) (L : List Pr) (A : Option Addr) (cap : Nat) (t l b r row col : Int) (w : World) (h : RB w yb B L A cap) (hs : SrtP L) (hBw : B ≤ w.heap.size) (hok : okP (⟨row, col, t, l, b, r⟩ : Pr)) (hl : (L.length + 1) * 56 ≤ 140737488355328) :
    Calls Try.prog 9 #[.pointer (some ⟨yb, 0, none⟩), .agg #[.int .i64 t, .int .i64 l, .int .i64 b, .int .i64 r], .agg #[.int .i64 row, .int .i64 col]] w (RAddIs w yb B L (⟨row, col, t, l, b, r⟩ : Pr)) := by
  obtain ⟨hm1, hm2⟩ := hok
  dsimp only at hm1 hm2
  have hyb := h.top.lt
  go_enter Try.func9, Try.ntmps9
  go_wp2_with fail
  refine (rmayrect_any t l b r _).mono ?_
  rintro e w1 ⟨rfl, hb1⟩
  have k4 := ((Blk.new w rfl 31 #[.int .i64 t, .int .i64 l, .int .i64 b, .int .i64 r]).alloc (.cells #[.int .i64 row, .int .i64 col] 33)).below hb1
  have k5 := (Blk.new (w.alloc (.cells #[.int .i64 t, .int .i64 l, .int .i64 b, .int .i64 r] 31)) (g := w.heap.size + 1) (by simp) 33 #[.int .i64 row, .int .i64 col]).below hb1
  have hW := bel_call (bel_alloc (bel_alloc (bel_refl w) (.cells #[.int .i64 t, .int .i64 l, .int .i64 b, .int .i64 r] 31)) (.cells #[.int .i64 row, .int .i64 col] 33)) hb1
  clear hb1
  have rd4 := k4.rd
  have lt4 := k4.lt
  have rd5 := k5.rd
  have lt5 := k5.lt
  rw [hm1]
  go_wp2_with fail
  refine (rmay_any row col _).mono ?_
  rintro e w2 ⟨rfl, hb2⟩
  replace k4 := k4.below hb2
  replace k5 := k5.below hb2
  replace hW := bel_call hW hb2
  clear hb2
  replace rd4 := k4.rd
  replace lt4 := k4.lt
  replace rd5 := k5.rd
  replace lt5 := k5.lt
  rw [hm2]
  go_wp2_with fail
  refine (pair_any t l b r row col _).mono ?_
  rintro e w3 ⟨rfl, hb3⟩
  replace k4 := k4.below hb3
  replace k5 := k5.below hb3
  replace hW := bel_call hW hb3
  clear hb3
  replace rd4 := k4.rd
  replace lt4 := k4.lt
  replace rd5 := k5.rd
  replace lt5 := k5.lt
  clear k4 rd4 lt4 k5 rd5 lt5
  go_wp2_with fail
  have k7' := Blk.new w3 rfl 47 #[.int .i64 row, .int .i64 col, .bool true, .int .i64 t, .int .i64 l, .int .i64 b, .int .i64 r]
  have hW' := bel_alloc hW (.cells #[.int .i64 row, .int .i64 col, .bool true, .int .i64 t, .int .i64 l, .int .i64 b, .int .i64 r] 47)
  go_loopw [8] (fun s8 wr => ∃ k : Nat, k ≤ L.length ∧ s8 = .int .i64 k ∧ Hid (cbP (⟨row, col, t, l, b, r⟩ : Pr) L = k + cbP (⟨row, col, t, l, b, r⟩ : Pr) (L.drop k)) ∧ Blk wr w3.heap.size 47 #[.int .i64 row, .int .i64 col, .bool true, .int .i64 t, .int .i64 l, .int .i64 b, .int .i64 r] ∧ Below w.heap.size w wr) (fun s8 _ => L.length - (intOf s8).toNat)
  case atStart => exact ⟨0, Nat.zero_le _, rfl, (show cbP (⟨row, col, t, l, b, r⟩ : Pr) L = 0 + cbP (⟨row, col, t, l, b, r⟩ : Pr) (L.drop 0) by rw [List.drop_zero]; omega), k7', hW'⟩
  case round =>
    obtain ⟨k, hk, rfl, HCB, k7, hWr⟩ := hrel
    clear k7' hW' hW
    have htop := h.top.below hWr
    have g7 := k7.gr
    have gt := htop.gr
    obtain ⟨hcap, hLi0, hA0⟩ := rb_see h.lst
    have hLi := hLi0.below hWr
    by_cases hkl : k < L.length
    · obtain ⟨x, hx⟩ : ∃ x, L[k]? = some x := ⟨_, List.getElem?_eq_getElem hkl⟩
      obtain ⟨g, off, hAe, hg, c0, c1, c2, c3, c4, c5, c6⟩ := edge_at hLi hx
      subst hAe
      have d0 := fun d os => cell_regrown c0 d os
      have d1 := fun d os => cell_regrown c1 d os
      have d2 := fun d os => cell_regrown c2 d os
      have d3 := fun d os => cell_regrown c3 d os
      have d4 := fun d os => cell_regrown c4 d os
      have d5 := fun d os => cell_regrown c5 d os
      have d6 := fun d os => cell_regrown c6 d os
      have hcd := cbP_drop (⟨row, col, t, l, b, r⟩ : Pr) hx
      have ha := fun W => ahead_any x.row x.col x.t x.l x.b x.r row col t l b r W
      obtain ⟨c, hc⟩ : ∃ c, c = decide (ltP x (⟨row, col, t, l, b, r⟩ : Pr)) := ⟨_, rfl⟩
      have hc2 : decide (ltP ⟨x.row, x.col, x.t, x.l, x.b, x.r⟩ (⟨row, col, t, l, b, r⟩ : Pr)) = c := hc.symm
      rw [hc2] at ha
      have HA := Lib.hid ha
      have HC := Lib.hid hc
      have HCD := Lib.hid hcd
      have HX := Lib.hid hx
      have i0 : (0 : Int) ≤ (k : Int) := by omega
      have i1 : (k : Int) < (L.length : Int) := by omega
      clear ha hc hc2 hcd hx c0 c1 c2 c3 c4 c5 c6
      go_wp2_with fail
      refine wp_region_quiet_below (by kernel_rfl) (by kernel_rfl) ?_
      repeat (any_goals (first | go_big_quiet_step ((first | (go_at_call 24; exact Calls.regrown_of (HA.out _)))) | fail))
      refine wpQuiet_nil ?_
      intro w5 hw'
      have hb5 := class_below hw'
      clear hw'
      have hW5 := bel_call hWr hb5
      have k75 := k7.below hb5
      cases c with
      | true =>
        have hNEXT : cbP (⟨row, col, t, l, b, r⟩ : Pr) L = (k + 1) + cbP (⟨row, col, t, l, b, r⟩ : Pr) (L.drop (k + 1)) := by
          rw [HCB.out, HCD.out, if_pos (of_decide_eq_true HC.out.symm)]
          omega
        have HNEXT := Lib.hid hNEXT
        clear hNEXT
        go_wp2_with fail
        go_roundw
        case rel => exact ⟨k + 1, by omega, by go_num, HNEXT, k75, hW5⟩
        case measure => simp [intOf]; omega
      | false =>
        have hce : cbP (⟨row, col, t, l, b, r⟩ : Pr) L = k := by
          rw [HCB.out, HCD.out, if_neg (of_decide_eq_false HC.out.symm)]
          rfl
        have HCE := Lib.hid hce
        have hmem : (⟨row, col, t, l, b, r⟩ : Pr) ∈ L ↔ x = (⟨row, col, t, l, b, r⟩ : Pr) := by
          rw [mem_at hs, hce, HX.out, Option.some.injEq]
        have HMEM := Lib.hid hmem
        clear hce hmem
        have heq := fun W => eql_edge W x.row x.col x.t x.l x.b x.r row col t l b r
        obtain ⟨q, hq⟩ : ∃ q, q = decide (x = (⟨row, col, t, l, b, r⟩ : Pr)) := ⟨_, rfl⟩
        have hq2 : decide ((⟨x.row, x.col, x.t, x.l, x.b, x.r⟩ : Pr) = (⟨row, col, t, l, b, r⟩ : Pr)) = q := hq.symm
        rw [hq2] at heq
        have HQ := Lib.hid hq
        clear hq hq2 d0 d1 d2 d3 d4 d5 d6 g7 gt
        obtain ⟨g', off', hAe, hg', c0, c1, c2, c3, c4, c5, c6⟩ := edge_at (hLi.below hb5) HX.out
        injection hAe with hAe
        injection hAe with hAe1 hAe2 _
        subst hAe1 hAe2
        have d0 := fun d os => cell_regrown c0 d os
        have d1 := fun d os => cell_regrown c1 d os
        have d2 := fun d os => cell_regrown c2 d os
        have d3 := fun d os => cell_regrown c3 d os
        have d4 := fun d os => cell_regrown c4 d os
        have d5 := fun d os => cell_regrown c5 d os
        have d6 := fun d os => cell_regrown c6 d os
        have g7 := k75.gr
        have gt := (htop.below hb5).gr
        clear c0 c1 c2 c3 c4 c5 c6
        clear hb5
        go_wp2_with fail
        refine wp_region_quiet_below (by kernel_rfl) (by kernel_rfl) ?_
        repeat (any_goals (first | go_big_quiet_step ((fail)) | fail))
        refine wpQuiet_nil ?_
        intro w6 hw'
        have hb6 := class_below hw'
        clear hw'
        have hWW := bel_call hW5 hb6
        have hq7 := k75.below hb6
        have hrq := (h.top.below hWW).rd
        have hrq7 := hq7.rd
        clear hb6 d0 d1 d2 d3 d4 d5 d6 g7 gt heq
        cases q with
        | true =>
          have hin : (⟨row, col, t, l, b, r⟩ : Pr) ∈ L := HMEM.out.2 (of_decide_eq_true HQ.out.symm)
          go_wp2_with fail
          go_ret
          exact .inl ⟨hin, rfl, hWW⟩
        | false =>
          have HNIN : Hid ((⟨row, col, t, l, b, r⟩ : Pr) ∉ L) := (show (⟨row, col, t, l, b, r⟩ : Pr) ∉ L from fun hm => of_decide_eq_false HQ.out.symm (HMEM.out.1 hm))
          have HLT : Hid ((L.take k).length = k) := (show (L.take k).length = k from by simp; omega)
          have HLD : Hid ((L.drop k).length = L.length - k) := (show (L.drop k).length = L.length - k from by simp)
          rcases hA0 with hA0 | ⟨ga, hA0, hga1, hga2⟩
          · cases hA0
          injection hA0 with he
          injection he with he1 he2 _
          subst he1 he2
          by_cases hcm : cap = k
          · have hcmT : (cap = k) = True := eq_true hcm
            have hcmT' : (k = cap) = True := eq_true hcm.symm
            have hXc : Lies KE w (some ⟨g, 0, none⟩) (L.drop k) := by
              have hX := hLi0.cut (a := k) hcap
              rw [if_pos hcm] at hX
              exact hX
            clear hcm
            have hX0 : Lies KE w (some ⟨g, 0, none⟩) (L.drop k) := hXc
            go_wp2_with (first
              | (at_builtin; (refine wp_ol_append info_ke rfl Try.underlying26 rfl (.tmp 59) (.tmp 65) rfl rfl (OL.nil _ w.heap.size) (M := L.take k) rfl HLT.out ((hLi0.below hWW).take k) (by unfold maxLen; simp; omega) (by simp [KE]; omega) hWW.size ?_); intro v7 w7 hO7 hg7; have hB7 := bel_grown hWW hg7 (fun z hz => by cases hz); have hk7 := hq7.grownX hg7 (by intro e; cases e); have hrd7 := hk7.rd; have hlt7 := hk7.lt; have hrt7 := (h.top.below hB7).rd; rw [List.nil_append] at hO7)
              | (at_builtin; (refine wp_ol_append info_ke rfl Try.underlying26 rfl (.tmp 67) (.tmp 69) rfl rfl (OL.alloc hO7 (.cells #[.int .i64 row, .int .i64 col, .bool true, .int .i64 t, .int .i64 l, .int .i64 b, .int .i64 r] 47)) (M := [(⟨row, col, t, l, b, r⟩ : Pr)]) (c := 1) rfl rfl (Lies.blk (Blk.new w7 rfl 47 #[.int .i64 row, .int .i64 col, .bool true, .int .i64 t, .int .i64 l, .int .i64 b, .int .i64 r]) rfl) (by rw [HLT.out]; unfold maxLen; omega) (by show (_ + 1) * 56 ≤ _; rw [HLT.out]; omega) (size1 hB7.size _) ?_); intro v8 w8 hO8 hg8; have hB8 := bel_grown (bel_alloc hB7 (.cells #[.int .i64 row, .int .i64 col, .bool true, .int .i64 t, .int .i64 l, .int .i64 b, .int .i64 r] 47)) hg8 (fun z hz => (hO7.lt z hz).1); have hrt8 := (h.top.below hB8).rd)
              | (at_builtin; (refine wp_ol_append info_ke rfl Try.underlying26 rfl (.tmp 71) (.tmp 77) rfl rfl hO8 (M := L.drop k) rfl HLD.out (hX0.below hB8) (by rw [List.length_append, HLT.out]; unfold maxLen; simp; omega) (by rw [List.length_append, HLT.out]; simp [KE]; omega) hB8.size ?_); intro v9 w9 hO9 hg9; have hB9 := bel_grown hB8 hg9 (fun z hz => (hO8.lt z hz).1); have ht9 := h.top.below hB9; have hrt9 := ht9.rd; have hft9 := ht9.fz; have hlt9 := ht9.lt; obtain ⟨A9, c9, hv9⟩ := ins_see HCE.out hO9; subst hv9))
            go_ret
            exact ins_done HNIN.out h HCE.out hBw hO9 hB9

          · have hXc : Lies KE w (some ⟨g, k * 7, none⟩) (L.drop k) := by
              have hX := hLi0.cut (a := k) hcap
              rw [if_neg hcm] at hX
              exact hX
            have hX0 : Lies KE w (some ⟨g, k * 7, none⟩) (L.drop k) := hXc
            go_wp2_with (first
              | (at_builtin; (refine wp_ol_append info_ke rfl Try.underlying26 rfl (.tmp 59) (.tmp 65) rfl rfl (OL.nil _ w.heap.size) (M := L.take k) rfl HLT.out ((hLi0.below hWW).take k) (by unfold maxLen; simp; omega) (by simp [KE]; omega) hWW.size ?_); intro v7 w7 hO7 hg7; have hB7 := bel_grown hWW hg7 (fun z hz => by cases hz); have hk7 := hq7.grownX hg7 (by intro e; cases e); have hrd7 := hk7.rd; have hlt7 := hk7.lt; have hrt7 := (h.top.below hB7).rd; rw [List.nil_append] at hO7)
              | (at_builtin; (refine wp_ol_append info_ke rfl Try.underlying26 rfl (.tmp 67) (.tmp 69) rfl rfl (OL.alloc hO7 (.cells #[.int .i64 row, .int .i64 col, .bool true, .int .i64 t, .int .i64 l, .int .i64 b, .int .i64 r] 47)) (M := [(⟨row, col, t, l, b, r⟩ : Pr)]) (c := 1) rfl rfl (Lies.blk (Blk.new w7 rfl 47 #[.int .i64 row, .int .i64 col, .bool true, .int .i64 t, .int .i64 l, .int .i64 b, .int .i64 r]) rfl) (by rw [HLT.out]; unfold maxLen; omega) (by show (_ + 1) * 56 ≤ _; rw [HLT.out]; omega) (size1 hB7.size _) ?_); intro v8 w8 hO8 hg8; have hB8 := bel_grown (bel_alloc hB7 (.cells #[.int .i64 row, .int .i64 col, .bool true, .int .i64 t, .int .i64 l, .int .i64 b, .int .i64 r] 47)) hg8 (fun z hz => (hO7.lt z hz).1); have hrt8 := (h.top.below hB8).rd)
              | (at_builtin; (refine wp_ol_append info_ke rfl Try.underlying26 rfl (.tmp 71) (.tmp 77) rfl rfl hO8 (M := L.drop k) rfl HLD.out (hX0.below hB8) (by rw [List.length_append, HLT.out]; unfold maxLen; simp; omega) (by rw [List.length_append, HLT.out]; simp [KE]; omega) hB8.size ?_); intro v9 w9 hO9 hg9; have hB9 := bel_grown hB8 hg9 (fun z hz => (hO8.lt z hz).1); have ht9 := h.top.below hB9; have hrt9 := ht9.rd; have hft9 := ht9.fz; have hlt9 := ht9.lt; obtain ⟨A9, c9, hv9⟩ := ins_see HCE.out hO9; subst hv9))
            go_ret
            exact ins_done HNIN.out h HCE.out hBw hO9 hB9


    · have HCE : Hid (cbP (⟨row, col, t, l, b, r⟩ : Pr) L = k) := (show cbP (⟨row, col, t, l, b, r⟩ : Pr) L = k from by rw [HCB.out, List.drop_eq_nil_of_le (by omega)]; rfl)
      have HNIN : Hid ((⟨row, col, t, l, b, r⟩ : Pr) ∉ L) := (show (⟨row, col, t, l, b, r⟩ : Pr) ∉ L from fun hm => by
        rw [mem_at hs, HCE.out, List.getElem?_eq_none (by omega)] at hm
        cases hm)
      have hke : (k : Int) = (L.length : Int) := by omega
      have hdd : decide ((k : Int) < (L.length : Int)) = false := by simp; omega
      clear hke
      go_wp2_with fail
      refine wp_region_quiet_below (by kernel_rfl) (by kernel_rfl) ?_
      repeat (any_goals (first | go_big_quiet_step ((fail)) | fail))
      refine wpQuiet_nil ?_
      intro w5 hw'
      have hb5 := class_below hw'
      clear hw'
      have hW5 := bel_call hWr hb5
      have k75 := k7.below hb5
      have g7 := k75.gr
      have gt := (htop.below hb5).gr
      clear hb5
      go_wp2_with fail
      refine wp_region_quiet_below (by kernel_rfl) (by kernel_rfl) ?_
      repeat (any_goals (first | go_big_quiet_step ((fail)) | fail))
      refine wpQuiet_nil ?_
      intro w6 hw'
      have hb6 := class_below hw'
      clear hw'
      have hWW := bel_call hW5 hb6
      have hq7 := k75.below hb6
      have hrq := (h.top.below hWW).rd
      have hrq7 := hq7.rd
      clear hb6 g7 gt
      have HLT : Hid ((L.take k).length = k) := (show (L.take k).length = k from by simp; omega)
      have HLD : Hid ((L.drop k).length = L.length - k) := (show (L.drop k).length = L.length - k from by simp)
      rcases hA0 with rfl | ⟨ga, rfl, hga1, hga2⟩
      · have hX0 : Lies KE w none (L.drop k) := (by rw [List.drop_eq_nil_of_le (by omega)]; exact Lies.nil _ _)
        go_wp2_with (first
          | (at_builtin; (refine wp_ol_append info_ke rfl Try.underlying26 rfl (.tmp 59) (.tmp 65) rfl rfl (OL.nil _ w.heap.size) (M := L.take k) rfl HLT.out ((hLi0.below hWW).take k) (by unfold maxLen; simp; omega) (by simp [KE]; omega) hWW.size ?_); intro v7 w7 hO7 hg7; have hB7 := bel_grown hWW hg7 (fun z hz => by cases hz); have hk7 := hq7.grownX hg7 (by intro e; cases e); have hrd7 := hk7.rd; have hlt7 := hk7.lt; have hrt7 := (h.top.below hB7).rd; rw [List.nil_append] at hO7)
          | (at_builtin; (refine wp_ol_append info_ke rfl Try.underlying26 rfl (.tmp 67) (.tmp 69) rfl rfl (OL.alloc hO7 (.cells #[.int .i64 row, .int .i64 col, .bool true, .int .i64 t, .int .i64 l, .int .i64 b, .int .i64 r] 47)) (M := [(⟨row, col, t, l, b, r⟩ : Pr)]) (c := 1) rfl rfl (Lies.blk (Blk.new w7 rfl 47 #[.int .i64 row, .int .i64 col, .bool true, .int .i64 t, .int .i64 l, .int .i64 b, .int .i64 r]) rfl) (by rw [HLT.out]; unfold maxLen; omega) (by show (_ + 1) * 56 ≤ _; rw [HLT.out]; omega) (size1 hB7.size _) ?_); intro v8 w8 hO8 hg8; have hB8 := bel_grown (bel_alloc hB7 (.cells #[.int .i64 row, .int .i64 col, .bool true, .int .i64 t, .int .i64 l, .int .i64 b, .int .i64 r] 47)) hg8 (fun z hz => (hO7.lt z hz).1); have hrt8 := (h.top.below hB8).rd)
          | (at_builtin; (refine wp_ol_append info_ke rfl Try.underlying26 rfl (.tmp 71) (.tmp 77) rfl rfl hO8 (M := L.drop k) rfl HLD.out (hX0.below hB8) (by rw [List.length_append, HLT.out]; unfold maxLen; simp; omega) (by rw [List.length_append, HLT.out]; simp [KE]; omega) hB8.size ?_); intro v9 w9 hO9 hg9; have hB9 := bel_grown hB8 hg9 (fun z hz => (hO8.lt z hz).1); have ht9 := h.top.below hB9; have hrt9 := ht9.rd; have hft9 := ht9.fz; have hlt9 := ht9.lt; obtain ⟨A9, c9, hv9⟩ := ins_see HCE.out hO9; subst hv9))
        go_ret
        exact ins_done HNIN.out h HCE.out hBw hO9 hB9

      · by_cases hcm : cap = k
        · have hcmT : (cap = k) = True := eq_true hcm
          have hcmT' : (k = cap) = True := eq_true hcm.symm
          have hXc : Lies KE w (some ⟨ga, 0, none⟩) (L.drop k) := by
            have hX := hLi0.cut (a := k) hcap
            rw [if_pos hcm] at hX
            exact hX
          clear hcm
          have hX0 : Lies KE w (some ⟨ga, 0, none⟩) (L.drop k) := hXc
          go_wp2_with (first
            | (at_builtin; (refine wp_ol_append info_ke rfl Try.underlying26 rfl (.tmp 59) (.tmp 65) rfl rfl (OL.nil _ w.heap.size) (M := L.take k) rfl HLT.out ((hLi0.below hWW).take k) (by unfold maxLen; simp; omega) (by simp [KE]; omega) hWW.size ?_); intro v7 w7 hO7 hg7; have hB7 := bel_grown hWW hg7 (fun z hz => by cases hz); have hk7 := hq7.grownX hg7 (by intro e; cases e); have hrd7 := hk7.rd; have hlt7 := hk7.lt; have hrt7 := (h.top.below hB7).rd; rw [List.nil_append] at hO7)
            | (at_builtin; (refine wp_ol_append info_ke rfl Try.underlying26 rfl (.tmp 67) (.tmp 69) rfl rfl (OL.alloc hO7 (.cells #[.int .i64 row, .int .i64 col, .bool true, .int .i64 t, .int .i64 l, .int .i64 b, .int .i64 r] 47)) (M := [(⟨row, col, t, l, b, r⟩ : Pr)]) (c := 1) rfl rfl (Lies.blk (Blk.new w7 rfl 47 #[.int .i64 row, .int .i64 col, .bool true, .int .i64 t, .int .i64 l, .int .i64 b, .int .i64 r]) rfl) (by rw [HLT.out]; unfold maxLen; omega) (by show (_ + 1) * 56 ≤ _; rw [HLT.out]; omega) (size1 hB7.size _) ?_); intro v8 w8 hO8 hg8; have hB8 := bel_grown (bel_alloc hB7 (.cells #[.int .i64 row, .int .i64 col, .bool true, .int .i64 t, .int .i64 l, .int .i64 b, .int .i64 r] 47)) hg8 (fun z hz => (hO7.lt z hz).1); have hrt8 := (h.top.below hB8).rd)
            | (at_builtin; (refine wp_ol_append info_ke rfl Try.underlying26 rfl (.tmp 71) (.tmp 77) rfl rfl hO8 (M := L.drop k) rfl HLD.out (hX0.below hB8) (by rw [List.length_append, HLT.out]; unfold maxLen; simp; omega) (by rw [List.length_append, HLT.out]; simp [KE]; omega) hB8.size ?_); intro v9 w9 hO9 hg9; have hB9 := bel_grown hB8 hg9 (fun z hz => (hO8.lt z hz).1); have ht9 := h.top.below hB9; have hrt9 := ht9.rd; have hft9 := ht9.fz; have hlt9 := ht9.lt; obtain ⟨A9, c9, hv9⟩ := ins_see HCE.out hO9; subst hv9))
          go_ret
          exact ins_done HNIN.out h HCE.out hBw hO9 hB9

        · have hXc : Lies KE w (some ⟨ga, k * 7, none⟩) (L.drop k) := by
            have hX := hLi0.cut (a := k) hcap
            rw [if_neg hcm] at hX
            exact hX
          have hX0 : Lies KE w (some ⟨ga, k * 7, none⟩) (L.drop k) := hXc
          go_wp2_with (first
            | (at_builtin; (refine wp_ol_append info_ke rfl Try.underlying26 rfl (.tmp 59) (.tmp 65) rfl rfl (OL.nil _ w.heap.size) (M := L.take k) rfl HLT.out ((hLi0.below hWW).take k) (by unfold maxLen; simp; omega) (by simp [KE]; omega) hWW.size ?_); intro v7 w7 hO7 hg7; have hB7 := bel_grown hWW hg7 (fun z hz => by cases hz); have hk7 := hq7.grownX hg7 (by intro e; cases e); have hrd7 := hk7.rd; have hlt7 := hk7.lt; have hrt7 := (h.top.below hB7).rd; rw [List.nil_append] at hO7)
            | (at_builtin; (refine wp_ol_append info_ke rfl Try.underlying26 rfl (.tmp 67) (.tmp 69) rfl rfl (OL.alloc hO7 (.cells #[.int .i64 row, .int .i64 col, .bool true, .int .i64 t, .int .i64 l, .int .i64 b, .int .i64 r] 47)) (M := [(⟨row, col, t, l, b, r⟩ : Pr)]) (c := 1) rfl rfl (Lies.blk (Blk.new w7 rfl 47 #[.int .i64 row, .int .i64 col, .bool true, .int .i64 t, .int .i64 l, .int .i64 b, .int .i64 r]) rfl) (by rw [HLT.out]; unfold maxLen; omega) (by show (_ + 1) * 56 ≤ _; rw [HLT.out]; omega) (size1 hB7.size _) ?_); intro v8 w8 hO8 hg8; have hB8 := bel_grown (bel_alloc hB7 (.cells #[.int .i64 row, .int .i64 col, .bool true, .int .i64 t, .int .i64 l, .int .i64 b, .int .i64 r] 47)) hg8 (fun z hz => (hO7.lt z hz).1); have hrt8 := (h.top.below hB8).rd)
            | (at_builtin; (refine wp_ol_append info_ke rfl Try.underlying26 rfl (.tmp 71) (.tmp 77) rfl rfl hO8 (M := L.drop k) rfl HLD.out (hX0.below hB8) (by rw [List.length_append, HLT.out]; unfold maxLen; simp; omega) (by rw [List.length_append, HLT.out]; simp [KE]; omega) hB8.size ?_); intro v9 w9 hO9 hg9; have hB9 := bel_grown hB8 hg9 (fun z hz => (hO8.lt z hz).1); have ht9 := h.top.below hB9; have hrt9 := ht9.rd; have hft9 := ht9.fz; have hlt9 := ht9.lt; obtain ⟨A9, c9, hv9⟩ := ins_see HCE.out hO9; subst hv9))
          go_ret
          exact ins_done HNIN.out h HCE.out hBw hO9 hB9


end Go.Proofs.Ytgmojgchbgmkeaa

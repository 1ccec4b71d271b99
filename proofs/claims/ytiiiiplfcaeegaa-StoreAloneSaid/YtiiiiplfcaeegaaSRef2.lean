/-
  The document's store: contract of Put. Conditions: those of each theorem.
-/
import Derived.Test.YtiiiiplfcaeegaaSRef1
namespace Go.Proofs.Ytiiiiplfcaeegaa
open Go.ChangeShapes Go.WideShapes Go.ChangeAt Go.RowKit Go.Deep

def ltI (x : Itm) (r c : Int) : Prop := x.r < r ∨ (x.r = r ∧ x.c < c)
instance (x : Itm) (r c : Int) : Decidable (ltI x r c) := inferInstanceAs (Decidable (_ ∨ _))
/-- How many stand before. -/
def cb (r c : Int) : List Itm → Nat
  | [] => 0
  | x :: l => if ltI x r c then cb r c l + 1 else 0
def insL (it : Itm) (l : List Itm) : List Itm := l.take (cb it.r it.c l) ++ [it] ++ l.drop (cb it.r it.c l)
theorem cb_le (r c : Int) : ∀ l, cb r c l ≤ l.length
  | [] => Nat.le_refl _
  | x :: l => by
    have := cb_le r c l
    unfold cb
    split
    · simp; omega
    · omega
theorem cb_drop (r c : Int) {l : List Itm} {k : Nat} {x : Itm} (h : l[k]? = some x) : cb r c (l.drop k) = if ltI x r c then cb r c (l.drop (k + 1)) + 1 else 0 := by
  obtain ⟨hk, e⟩ := List.getElem?_eq_some_iff.1 h
  rw [List.drop_eq_getElem_cons hk, e]
  rfl

theorem rput_no (yb : Nat) (r c k : Int) (w : World) (hm : mayB r c = false) :
    Calls Try.prog 26 #[.pointer (some ⟨yb, 0, none⟩), .agg #[.int .i64 r, .int .i64 c], .int .i64 k] w fun e w' => e = .returned (.int .i64 3) ∧ Below w.heap.size w w' := by
  go_enter Try.func26, Try.ntmps26
  go_wp2_with fail
  refine (rmay_any _ _ _).mono ?_
  rintro e w1 ⟨rfl, hb1⟩
  rw [hm]
  go_wp2_with fail
  go_ret
  exact ⟨rfl, bel_call (bel_alloc (bel_refl w) _) hb1⟩

set_option maxHeartbeats 1600000 in
set_option maxRecDepth 100000 in
theorem rput_yes (yb : Nat) (L : List Itm) (A : Option Addr) (cap : Nat) (r c k : Int) (w : World) (h : YIs w yb L A cap) (hl : (L.length + 1) * 24 ≤ 140737488355328) (hm : mayB r c = true) :
    Calls Try.prog 26 #[.pointer (some ⟨yb, 0, none⟩), .agg #[.int .i64 r, .int .i64 c], .int .i64 k] w fun e w' => e = .returned (.int .i64 0) ∧
      ∃ A' cap', YIs w' yb (insL ⟨r, c, k⟩ (wo r c L)) A' cap' ∧ Frm (fun z => z = yb) w w' := by
  go_enter Try.func26, Try.ntmps26
  go_wp2_with fail
  refine (rmay_any _ _ _).mono ?_
  rintro e w1 ⟨rfl, hb1⟩
  rw [hm]
  have k4 := (Blk.new w rfl _ _).below hb1
  have hY := (h.alloc _).below hb1
  have hw := bel_call (bel_alloc (bel_refl w) _) hb1
  clear hb1
  have rd4 := k4.rd
  have lt4 := k4.lt
  go_wp2_with fail
  refine (without_any yb L A cap r c _ hY (by omega)).mono ?_
  rintro e w2 ⟨v, rfl, hO, hb2⟩
  replace hY := hY.below hb2
  replace k4 := k4.below hb2
  replace hw := bel_call hw hb2
  clear hb2
  replace rd4 := k4.rd
  replace lt4 := k4.lt
  have hwl := wo_len r c L
  obtain ⟨l, hlE⟩ : ∃ l, l = wo r c L := ⟨_, rfl⟩
  rw [← hlE] at hO hwl
  have HLE : Hid (l = wo r c L) := hlE
  clear hlE
  obtain ⟨A8, cap8, rfl, hcap, hcapm, hlies, hA8⟩ := hO.see
  go_wp2_with fail
  have hB0 := bel_refl w2
  have hO4 : Hid (∀ z : Nat, w2.heap.size ≤ z → w.heap.size < z ∧ yb < z) := fun z hz => by
    have h1 := hY.top.lt
    have h2 := k4.lt
    omega
  rcases hA8 with rfl | ⟨g, rfl, hg1, hg2⟩
  · obtain rfl : l = [] := by
      rcases hq : l with _ | ⟨x, l'⟩
      · rfl
      · obtain ⟨b, off, h1, _⟩ := hlies 0 x (by rw [hq]; rfl)
        cases h1
    go_loopw [9] (fun s9 wx => s9 = .int .i64 0 ∧ Below w2.heap.size w2 wx) (fun _ _ => 0)
    case atStart => exact ⟨rfl, hB0⟩
    case round =>
      obtain ⟨rfl, hB⟩ := hrel
      clear hB0
      have hbz : w2.heap.size ≤ wr.heap.size := hB.size
      have k4' := k4.below hB
      replace rd4 := k4'.rd
      replace lt4 := k4'.lt
      go_wp2_with fail
      go_quiet (fail)
      go_wp2_with (first | (at_builtin; (refine wp_ol_append info_item rfl Try.underlying61 rfl (.tmp 57) (.tmp 60) rfl rfl (OL.nil _ w2.heap.size) (M := ([] : List Itm).take 0) rfl (by first | rfl | (simp <;> omega)) (Lies.nil _ _) (by show 0 + _ ≤ _; unfold maxLen; omega) (by show (0 + _) * 24 ≤ _; omega) hbz ?_); intro v7 w7 hO7 hg7; have hB7 := bel_grown (bel_drewN hB _) hg7 (fun z hz => by cases hz); have hk47 := (k4.below hB7).rd; have hN7 : (([] : List Itm) ++ ([] : List Itm).take 0).length = 0 := by first | rfl | (simp <;> omega)) | (at_builtin; (refine wp_ol_append info_item rfl Try.underlying61 rfl (.tmp 62) (.tmp 66) rfl rfl (OL.alloc hO7 _) (M := [⟨r, c, k⟩]) (c := 1) rfl rfl (Lies.blk (Blk.new w7 rfl 87 #[.int .i64 r, .int .i64 c, .int .i64 k]) rfl) (by rw [hN7]; unfold maxLen; omega) (by show (_ + _) * 24 ≤ _; rw [hN7]; omega) (by have := hB7.size; simp; omega) ?_); intro v8 w8 hO8 hg8; have hB8 := bel_grown (bel_alloc hB7 _) hg8 (fun z hz => (hO7.lt z hz).1); have hk48 := (k4.below hB8).rd; have hN8 : (([] : List Itm) ++ ([] : List Itm).take 0 ++ [(⟨r, c, k⟩ : Itm)]).length = 0 + 1 := by rw [List.length_append, hN7]; rfl) | (at_builtin; go_must (refine wp_ol_append info_item rfl Try.underlying61 rfl (.tmp 69) (.tmp 72) rfl rfl hO8 (M := ([] : List Itm).drop 0) rfl (by first | rfl | (simp <;> omega)) (Lies.nil _ _) (by rw [hN8]; unfold maxLen; omega) (by show (_ + _) * 24 ≤ _; rw [hN8]; omega) hB8.size ?_); intro v9 w9 hO9 hg9; have hB9 := bel_grown hB8 hg9 (fun z hz => (hO8.lt z hz).1); have hY9 := (hY.below hB9).top; have hY9r := hY9.rd; have hYf := hY9.fz; have hYl := hY9.lt; obtain ⟨A9, cap9, rfl, _, _, _, _⟩ := hO9.see))
      all_goals
        go_ret
        have hcbE : cb r c [] = 0 := by rfl
        have hins : insL ⟨r, c, k⟩ (wo r c L) = ([] : List Itm) ++ ([] : List Itm).take 0 ++ [⟨r, c, k⟩] ++ ([] : List Itm).drop 0 := by
          rw [← HLE.out]
          show List.take (cb r c []) _ ++ _ ++ List.drop (cb r c []) _ = _
          rw [hcbE, List.nil_append]
        have hlen : (insL ⟨r, c, k⟩ (wo r c L)).length = ([] : List Itm).length + 1 := by
          rw [hins]
          simp
          try omega
        have hFR := ((Frm.refl (fun z => z = yb) w).call hw).call hB9
        have hYL : OL KI w9 0 (.slice A9 (insL ⟨r, c, k⟩ (wo r c L)).length cap9) (insL ⟨r, c, k⟩ (wo r c L)) := by
          rw [hins]
          exact hO9.low (Nat.zero_le _)
        have hne : ∀ z, Value.ownBlock (.slice A9 (insL ⟨r, c, k⟩ (wo r c L)).length cap9) = some z → z ≠ yb := fun z hz => by
          have h1 := (hO9.lt z (by cases A9 <;> first | exact hz | cases hz)).1
          have h2 := hO4.out z h1
          omega
        have hYY : YIs (w9.setCell ⟨yb, 0, none⟩ (.slice A9 (insL ⟨r, c, k⟩ (wo r c L)).length cap9)) yb (insL ⟨r, c, k⟩ (wo r c L)) A9 cap9 := ⟨hY9.put 0 _, hYL.set hne _ _⟩
        rw [hlen] at hYY
        first | exact ⟨rfl, ⟨A9, cap9, hYY⟩, hFR.set (.inl rfl) _⟩ | exact ⟨rfl, A9, cap9, hYY, hFR.set (.inl rfl) _⟩ | (rw [show ([] : List Itm).length + 1 = 0 + (([] : List Itm).length - 0 + 1) by omega] at hYY; first | exact ⟨rfl, ⟨A9, cap9, hYY⟩, hFR.set (.inl rfl) _⟩ | exact ⟨rfl, A9, cap9, hYY, hFR.set (.inl rfl) _⟩)
  have HL : Hid (Lies KI w2 (some ⟨g, 0, none⟩) l) := hlies
  go_loopw [9] (fun s9 wx => ∃ a : Nat, a ≤ l.length ∧ s9 = .int .i64 a ∧ Hid (a + cb r c (l.drop a) = cb r c l) ∧ Below w2.heap.size w2 wx) (fun s9 _ => l.length - (intOf s9).toNat)
  case atStart => exact ⟨0, Nat.zero_le _, rfl, by show (_ = _); simp, hB0⟩
  case round =>
    obtain ⟨a, ha, rfl, hcb, hB⟩ := hrel
    clear hB0
    have k4' := k4.below hB
    replace rd4 := k4'.rd
    replace lt4 := k4'.lt
    have hbz : w2.heap.size ≤ wr.heap.size := hB.size
    by_cases hal : a < l.length
    · obtain ⟨x, hx⟩ : ∃ x, l[a]? = some x := ⟨_, List.getElem?_eq_getElem hal⟩
      obtain ⟨b1, o1, hA, hb1, e0⟩ := hlies a x hx
      cases hA
      have e1 := (hB.cell (p := ⟨g, _, none⟩) hb1).trans (e0 0 _ rfl)
      have e2 := (hB.cell (p := ⟨g, _, none⟩) hb1).trans (e0 1 _ rfl)
      have hcd := cb_drop r c hx
      obtain ⟨xr, xc, xk⟩ := x
      dsimp only [KI, Nat.add_zero] at e1 e2
      rw [Nat.zero_add] at e1 e2
      clear e0 hx
      by_cases hlt : ltI ⟨xr, xc, xk⟩ r c
      · rw [if_pos hlt] at hcd
        have HCD : Hid (cb r c (l.drop a) = cb r c (l.drop (a + 1)) + 1) := hcd
        clear hcd
        by_cases h1 : xr < r
        · have hd : decide (xr < r) = true := by simpa using h1
          clear hlt
          go_wp2_with fail
          go_quiet (fail)
          go_wp2_with fail
          go_roundw
          case rel => exact ⟨a + 1, by omega, by go_num, by show (_ = _); have h1 := hcb.out; have h2 := HCD.out; omega, bel_drewN hB _⟩
          case measure => simp [intOf]; omega
        · have h2 : xr = r := by rcases hlt with h | h; exact absurd h h1; exact h.1
          have h3 : xc < c := by rcases hlt with h | h; exact absurd h h1; exact h.2
          subst h2
          clear hlt h1
          have hd : decide (xc < c) = true := by simpa using h3
          go_wp2_with fail
          go_quiet (fail)
          go_wp2_with fail
          go_roundw
          case rel => exact ⟨a + 1, by omega, by go_num, by show (_ = _); have h1 := hcb.out; have h2 := HCD.out; omega, bel_drewN hB _⟩
          case measure => simp [intOf]; omega
      · rw [if_neg hlt] at hcd
        have HCD : Hid (cb r c (l.drop a) = 0) := hcd
        clear hcd
        by_cases h2 : xr = r
        · have h3 : ¬ xc < c := fun h => hlt (.inr ⟨h2, h⟩)
          have hd : decide (xc < c) = false := by simpa using h3
          have h2' := h2.symm
          subst h2'
          clear hlt
          go_wp2_with fail
          go_quiet (fail)
          go_wp2_with (first | (at_builtin; (refine wp_ol_append info_item rfl Try.underlying61 rfl (.tmp 57) (.tmp 60) rfl rfl (OL.nil _ w2.heap.size) (M := (l : List Itm).take a) rfl (by first | rfl | (simp <;> omega)) (Lies.take (Lies.below HL.out (bel_drewN hB _)) _) (by show 0 + _ ≤ _; unfold maxLen; omega) (by show (0 + _) * 24 ≤ _; omega) hbz ?_); intro v7 w7 hO7 hg7; have hB7 := bel_grown (bel_drewN hB _) hg7 (fun z hz => by cases hz); have hk47 := (k4.below hB7).rd; have hN7 : (([] : List Itm) ++ (l : List Itm).take a).length = a := by first | rfl | (simp <;> omega)) | (at_builtin; (refine wp_ol_append info_item rfl Try.underlying61 rfl (.tmp 62) (.tmp 66) rfl rfl (OL.alloc hO7 _) (M := [⟨r, c, k⟩]) (c := 1) rfl rfl (Lies.blk (Blk.new w7 rfl 87 #[.int .i64 r, .int .i64 c, .int .i64 k]) rfl) (by rw [hN7]; unfold maxLen; omega) (by show (_ + _) * 24 ≤ _; rw [hN7]; omega) (by have := hB7.size; simp; omega) ?_); intro v8 w8 hO8 hg8; have hB8 := bel_grown (bel_alloc hB7 _) hg8 (fun z hz => (hO7.lt z hz).1); have hk48 := (k4.below hB8).rd; have hN8 : (([] : List Itm) ++ (l : List Itm).take a ++ [(⟨r, c, k⟩ : Itm)]).length = a + 1 := by rw [List.length_append, hN7]; rfl) | (at_builtin; go_must (refine wp_ol_append info_item rfl Try.underlying61 rfl (.tmp 69) (.tmp 72) rfl rfl hO8 (M := (l : List Itm).drop a) rfl (by first | rfl | (simp <;> omega)) (by first | exact Lies.cut (Lies.below HL.out hB8) hcap | exact Lies.skip (Lies.below HL.out hB8)) (by rw [hN8]; unfold maxLen; omega) (by show (_ + _) * 24 ≤ _; rw [hN8]; omega) hB8.size ?_); intro v9 w9 hO9 hg9; have hB9 := bel_grown hB8 hg9 (fun z hz => (hO8.lt z hz).1); have hY9 := (hY.below hB9).top; have hY9r := hY9.rd; have hYf := hY9.fz; have hYl := hY9.lt; obtain ⟨A9, cap9, rfl, _, _, _, _⟩ := hO9.see))
          all_goals
            go_ret
            have hcbE : cb r c l = a := by have h1 := hcb.out; have h2 := HCD.out; omega
            have hins : insL ⟨r, c, k⟩ (wo r c L) = ([] : List Itm) ++ (l : List Itm).take a ++ [⟨r, c, k⟩] ++ (l : List Itm).drop a := by
              rw [← HLE.out]
              show List.take (cb r c l) _ ++ _ ++ List.drop (cb r c l) _ = _
              rw [hcbE, List.nil_append]
            have hlen : (insL ⟨r, c, k⟩ (wo r c L)).length = (l : List Itm).length + 1 := by
              rw [hins]
              simp
              try omega
            have hFR := ((Frm.refl (fun z => z = yb) w).call hw).call hB9
            have hYL : OL KI w9 0 (.slice A9 (insL ⟨r, c, k⟩ (wo r c L)).length cap9) (insL ⟨r, c, k⟩ (wo r c L)) := by
              rw [hins]
              exact hO9.low (Nat.zero_le _)
            have hne : ∀ z, Value.ownBlock (.slice A9 (insL ⟨r, c, k⟩ (wo r c L)).length cap9) = some z → z ≠ yb := fun z hz => by
              have h1 := (hO9.lt z (by cases A9 <;> first | exact hz | cases hz)).1
              have h2 := hO4.out z h1
              omega
            have hYY : YIs (w9.setCell ⟨yb, 0, none⟩ (.slice A9 (insL ⟨r, c, k⟩ (wo r c L)).length cap9)) yb (insL ⟨r, c, k⟩ (wo r c L)) A9 cap9 := ⟨hY9.put 0 _, hYL.set hne _ _⟩
            rw [hlen] at hYY
            first | exact ⟨rfl, ⟨A9, cap9, hYY⟩, hFR.set (.inl rfl) _⟩ | exact ⟨rfl, A9, cap9, hYY, hFR.set (.inl rfl) _⟩ | (rw [show (l : List Itm).length + 1 = a + ((l : List Itm).length - a + 1) by omega] at hYY; first | exact ⟨rfl, ⟨A9, cap9, hYY⟩, hFR.set (.inl rfl) _⟩ | exact ⟨rfl, A9, cap9, hYY, hFR.set (.inl rfl) _⟩)
        · have h3 : ¬ xr < r := fun h => hlt (.inl h)
          have hd : decide (xr < r) = false := by simpa using h3
          have hd2 : (xr == r) = false := by simpa using h2
          clear hlt h2 h3
          go_wp2_with fail
          go_quiet (fail)
          go_wp2_with (first | (at_builtin; (refine wp_ol_append info_item rfl Try.underlying61 rfl (.tmp 57) (.tmp 60) rfl rfl (OL.nil _ w2.heap.size) (M := (l : List Itm).take a) rfl (by first | rfl | (simp <;> omega)) (Lies.take (Lies.below HL.out (bel_drewN hB _)) _) (by show 0 + _ ≤ _; unfold maxLen; omega) (by show (0 + _) * 24 ≤ _; omega) hbz ?_); intro v7 w7 hO7 hg7; have hB7 := bel_grown (bel_drewN hB _) hg7 (fun z hz => by cases hz); have hk47 := (k4.below hB7).rd; have hN7 : (([] : List Itm) ++ (l : List Itm).take a).length = a := by first | rfl | (simp <;> omega)) | (at_builtin; (refine wp_ol_append info_item rfl Try.underlying61 rfl (.tmp 62) (.tmp 66) rfl rfl (OL.alloc hO7 _) (M := [⟨r, c, k⟩]) (c := 1) rfl rfl (Lies.blk (Blk.new w7 rfl 87 #[.int .i64 r, .int .i64 c, .int .i64 k]) rfl) (by rw [hN7]; unfold maxLen; omega) (by show (_ + _) * 24 ≤ _; rw [hN7]; omega) (by have := hB7.size; simp; omega) ?_); intro v8 w8 hO8 hg8; have hB8 := bel_grown (bel_alloc hB7 _) hg8 (fun z hz => (hO7.lt z hz).1); have hk48 := (k4.below hB8).rd; have hN8 : (([] : List Itm) ++ (l : List Itm).take a ++ [(⟨r, c, k⟩ : Itm)]).length = a + 1 := by rw [List.length_append, hN7]; rfl) | (at_builtin; go_must (refine wp_ol_append info_item rfl Try.underlying61 rfl (.tmp 69) (.tmp 72) rfl rfl hO8 (M := (l : List Itm).drop a) rfl (by first | rfl | (simp <;> omega)) (by first | exact Lies.cut (Lies.below HL.out hB8) hcap | exact Lies.skip (Lies.below HL.out hB8)) (by rw [hN8]; unfold maxLen; omega) (by show (_ + _) * 24 ≤ _; rw [hN8]; omega) hB8.size ?_); intro v9 w9 hO9 hg9; have hB9 := bel_grown hB8 hg9 (fun z hz => (hO8.lt z hz).1); have hY9 := (hY.below hB9).top; have hY9r := hY9.rd; have hYf := hY9.fz; have hYl := hY9.lt; obtain ⟨A9, cap9, rfl, _, _, _, _⟩ := hO9.see))
          all_goals
            go_ret
            have hcbE : cb r c l = a := by have h1 := hcb.out; have h2 := HCD.out; omega
            have hins : insL ⟨r, c, k⟩ (wo r c L) = ([] : List Itm) ++ (l : List Itm).take a ++ [⟨r, c, k⟩] ++ (l : List Itm).drop a := by
              rw [← HLE.out]
              show List.take (cb r c l) _ ++ _ ++ List.drop (cb r c l) _ = _
              rw [hcbE, List.nil_append]
            have hlen : (insL ⟨r, c, k⟩ (wo r c L)).length = (l : List Itm).length + 1 := by
              rw [hins]
              simp
              try omega
            have hFR := ((Frm.refl (fun z => z = yb) w).call hw).call hB9
            have hYL : OL KI w9 0 (.slice A9 (insL ⟨r, c, k⟩ (wo r c L)).length cap9) (insL ⟨r, c, k⟩ (wo r c L)) := by
              rw [hins]
              exact hO9.low (Nat.zero_le _)
            have hne : ∀ z, Value.ownBlock (.slice A9 (insL ⟨r, c, k⟩ (wo r c L)).length cap9) = some z → z ≠ yb := fun z hz => by
              have h1 := (hO9.lt z (by cases A9 <;> first | exact hz | cases hz)).1
              have h2 := hO4.out z h1
              omega
            have hYY : YIs (w9.setCell ⟨yb, 0, none⟩ (.slice A9 (insL ⟨r, c, k⟩ (wo r c L)).length cap9)) yb (insL ⟨r, c, k⟩ (wo r c L)) A9 cap9 := ⟨hY9.put 0 _, hYL.set hne _ _⟩
            rw [hlen] at hYY
            first | exact ⟨rfl, ⟨A9, cap9, hYY⟩, hFR.set (.inl rfl) _⟩ | exact ⟨rfl, A9, cap9, hYY, hFR.set (.inl rfl) _⟩ | (rw [show (l : List Itm).length + 1 = a + ((l : List Itm).length - a + 1) by omega] at hYY; first | exact ⟨rfl, ⟨A9, cap9, hYY⟩, hFR.set (.inl rfl) _⟩ | exact ⟨rfl, A9, cap9, hYY, hFR.set (.inl rfl) _⟩)
    · obtain rfl : a = l.length := by omega
      clear ha hal
      go_wp2_with fail
      go_quiet (fail)
      go_wp2_with (first | (at_builtin; (refine wp_ol_append info_item rfl Try.underlying61 rfl (.tmp 57) (.tmp 60) rfl rfl (OL.nil _ w2.heap.size) (M := (l : List Itm).take l.length) rfl (by first | rfl | (simp <;> omega)) (Lies.take (Lies.below HL.out (bel_drewN hB _)) _) (by show 0 + _ ≤ _; unfold maxLen; omega) (by show (0 + _) * 24 ≤ _; omega) hbz ?_); intro v7 w7 hO7 hg7; have hB7 := bel_grown (bel_drewN hB _) hg7 (fun z hz => by cases hz); have hk47 := (k4.below hB7).rd; have hN7 : (([] : List Itm) ++ (l : List Itm).take l.length).length = l.length := by first | rfl | (simp <;> omega)) | (at_builtin; (refine wp_ol_append info_item rfl Try.underlying61 rfl (.tmp 62) (.tmp 66) rfl rfl (OL.alloc hO7 _) (M := [⟨r, c, k⟩]) (c := 1) rfl rfl (Lies.blk (Blk.new w7 rfl 87 #[.int .i64 r, .int .i64 c, .int .i64 k]) rfl) (by rw [hN7]; unfold maxLen; omega) (by show (_ + _) * 24 ≤ _; rw [hN7]; omega) (by have := hB7.size; simp; omega) ?_); intro v8 w8 hO8 hg8; have hB8 := bel_grown (bel_alloc hB7 _) hg8 (fun z hz => (hO7.lt z hz).1); have hk48 := (k4.below hB8).rd; have hN8 : (([] : List Itm) ++ (l : List Itm).take l.length ++ [(⟨r, c, k⟩ : Itm)]).length = l.length + 1 := by rw [List.length_append, hN7]; rfl) | (at_builtin; go_must (refine wp_ol_append info_item rfl Try.underlying61 rfl (.tmp 69) (.tmp 72) rfl rfl hO8 (M := (l : List Itm).drop l.length) rfl (by first | rfl | (simp <;> omega)) (by first | exact Lies.cut (Lies.below HL.out hB8) hcap | exact Lies.skip (Lies.below HL.out hB8)) (by rw [hN8]; unfold maxLen; omega) (by show (_ + _) * 24 ≤ _; rw [hN8]; omega) hB8.size ?_); intro v9 w9 hO9 hg9; have hB9 := bel_grown hB8 hg9 (fun z hz => (hO8.lt z hz).1); have hY9 := (hY.below hB9).top; have hY9r := hY9.rd; have hYf := hY9.fz; have hYl := hY9.lt; obtain ⟨A9, cap9, rfl, _, _, _, _⟩ := hO9.see))
      all_goals
        go_ret
        have hcbE : cb r c l = l.length := by have h1 := hcb.out; rw [List.drop_length] at h1; exact h1.symm
        have hins : insL ⟨r, c, k⟩ (wo r c L) = ([] : List Itm) ++ (l : List Itm).take l.length ++ [⟨r, c, k⟩] ++ (l : List Itm).drop l.length := by
          rw [← HLE.out]
          show List.take (cb r c l) _ ++ _ ++ List.drop (cb r c l) _ = _
          rw [hcbE, List.nil_append]
        have hlen : (insL ⟨r, c, k⟩ (wo r c L)).length = (l : List Itm).length + 1 := by
          rw [hins]
          simp
          try omega
        have hFR := ((Frm.refl (fun z => z = yb) w).call hw).call hB9
        have hYL : OL KI w9 0 (.slice A9 (insL ⟨r, c, k⟩ (wo r c L)).length cap9) (insL ⟨r, c, k⟩ (wo r c L)) := by
          rw [hins]
          exact hO9.low (Nat.zero_le _)
        have hne : ∀ z, Value.ownBlock (.slice A9 (insL ⟨r, c, k⟩ (wo r c L)).length cap9) = some z → z ≠ yb := fun z hz => by
          have h1 := (hO9.lt z (by cases A9 <;> first | exact hz | cases hz)).1
          have h2 := hO4.out z h1
          omega
        have hYY : YIs (w9.setCell ⟨yb, 0, none⟩ (.slice A9 (insL ⟨r, c, k⟩ (wo r c L)).length cap9)) yb (insL ⟨r, c, k⟩ (wo r c L)) A9 cap9 := ⟨hY9.put 0 _, hYL.set hne _ _⟩
        rw [hlen] at hYY
        first | exact ⟨rfl, ⟨A9, cap9, hYY⟩, hFR.set (.inl rfl) _⟩ | exact ⟨rfl, A9, cap9, hYY, hFR.set (.inl rfl) _⟩ | (rw [show (l : List Itm).length + 1 = l.length + ((l : List Itm).length - l.length + 1) by omega] at hYY; first | exact ⟨rfl, ⟨A9, cap9, hYY⟩, hFR.set (.inl rfl) _⟩ | exact ⟨rfl, A9, cap9, hYY, hFR.set (.inl rfl) _⟩)
end Go.Proofs.Ytiiiiplfcaeegaa

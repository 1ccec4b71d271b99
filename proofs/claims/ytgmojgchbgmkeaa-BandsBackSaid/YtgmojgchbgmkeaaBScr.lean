/-
  Bands: the walk of BandsScript. Conditions: the steps lie as said; they take less than the reach.
-/
import Derived.Test.YtgmojgchbgmkeaaBPb
import Derived.Test.YtgmojgchbgmkeaaBROver
import Derived.Test.YtgmojgchbgmkeaaBHelp
namespace Go.Proofs.Ytgmojgchbgmkeaa
open Go.ChangeShapes Go.WideShapes Go.ChangeAt Go.RowKit Go.Deep
attribute [local go_sem] Cls

theorem PB.ty {w : World} {bb N : Nat} {O : Nat → Prop} {Ls : List Pr} (h : PB w bb N O Ls) {z : Nat} (hz : O z) {t : TypeId} {cs : Array Value} (hb : Blk w z t cs) : t = 52 := by
  obtain ⟨ma, mb, nb, L, F, h, hO, _⟩ := h
  have map_no : ∀ {n : Nat} {M : List Pr}, PSet w z n M → t = 52 := fun hs => by
    obtain ⟨D, ⟨es, clock, e, _⟩, _⟩ := hs
    have hb' : w.heap[z]? = some (.cells cs t (0, 0)) := hb
    rw [e] at hb'
    injection hb' with hb'
    cases hb'
  rcases (hO z).1 hz with rfl | rfl | rfl | ⟨k, hk⟩
  · have h1 : w.heap[z]? = some (.cells cs t (0, 0)) := hb
    have h2 : w.heap[z]? = some (.cells _ 52 (0, 0)) := h.top
    rw [h2] at h1
    injection h1 with h1
    injection h1 with _ h1 _
    exact h1.symm
  · exact map_no h.all
  · obtain ⟨D, ⟨es, clock, e, _⟩, _⟩ := h.bg.band
    have hb' : w.heap[z]? = some (.cells cs t (0, 0)) := hb
    rw [e] at hb'
    injection hb' with hb'
    cases hb'
  · exact map_no (h.bg.grp k z hk)
theorem RP.frmO {w w' : World} {yb B bb N : Nat} {O : Nat → Prop} {Ls Ms : List Pr} (h : RP w yb B Ls) (hP : PB w bb N O Ms) (hF : Frm O w w') : RP w' yb B Ls := by
  refine h.frm hF (fun hz => ?_) (fun g cur hg hz => ?_)
  · obtain ⟨⟨A, cap, h⟩, _⟩ := h
    exact absurd (hP.ty hz h.top) (of_decide_eq_false (by kernel_rfl))
  · exact absurd (hP.ty hz hg) (of_decide_eq_false (by kernel_rfl))
theorem PB.frmY {w w' : World} {yb B bb N : Nat} {O : Nat → Prop} {Ls Ms : List Pr} (h : PB w bb N O Ls) (hR : RP w yb B Ms) (hF : Frm (fun z => z = yb) w w') : PB w' bb N O Ls := by
  refine h.frm hF (fun z hz e => ?_)
  subst e
  obtain ⟨⟨A, cap, hR⟩, _⟩ := hR
  exact absurd (h.ty hz hR.top) (of_decide_eq_false (by kernel_rfl))

theorem known_any (w : World) : Calls Try.prog 7 #[] w fun e w' => e = .returned (.bool true) ∧ Below w.heap.size w w' := by
  go_enter Try.func7, Try.ntmps7
  go_wp2_with fail
  refine (pb_new _).mono ?_
  rintro e w1 ⟨bb, O, rfl, h1, hO1, hb1⟩
  have hW := hb1
  clear hb1
  go_wp2_with fail
  have k2 := Blk.new w1 rfl 33 #[.int .i64 4, .int .i64 4]
  have hW2 := bel_alloc hW (.cells #[.int .i64 4, .int .i64 4] 33)
  refine (pb_add bb 0 O [] 1 1 2 2 4 4 _ (h1.alloc _) (by unfold rngP i64P; decide) (by omega)).mono ?_
  rintro e w2 ⟨O2, rfl, h2, hF2, hO2⟩
  rw [show addB ⟨4, 4, 1, 1, 2, 2⟩ [] = true from by decide]
  rw [show addP ⟨4, 4, 1, 1, 2, 2⟩ [] = [⟨4, 4, 1, 1, 2, 2⟩] from by decide] at h2
  replace k2 := hF2.blk k2 (fun hz => by have := h1.lt _ hz; omega)
  replace hW2 := hF2.bel hW2 (fun z hz => by have := hO1 z hz; omega)
  clear h1 hW hF2 hO2 hO1
  go_wp2_with fail
  refine (pb_over bb 1 O2 _ 2 1 _ h2 (by unfold i64P; decide) (by omega)).mono ?_
  rintro e w3 ⟨A, rfl, hl, _, hb3⟩
  rw [show ovs 2 1 [⟨4, 4, 1, 1, 2, 2⟩] = [⟨4, 4⟩] from by decide] at hl ⊢
  obtain ⟨g, off, rfl, hg, c0, c1⟩ := cl_at hl (i := 0) rfl
  rw [Nat.zero_mul, Nat.add_zero] at c0 c1
  replace k2 := k2.below hb3
  replace hW2 := bel_call hW2 hb3
  have d0 := fun d os => cell_regrown c0 d os
  have d1 := fun d os => cell_regrown c1 d os
  have gk := k2.gr
  clear hb3 c0 c1 h2 hl
  have hE : ∀ W, (binOp .eql 33 (.agg #[.int .i64 4, .int .i64 4]) (.agg #[.int .i64 4, .int .i64 4])).run Try.prog W = .ok (.bool true) W := fun W => by
    rw [eql_cell W 4 4 4 4]
    simp
  go_wp2_with fail
  refine wp_region_quiet_below (by kernel_rfl) (by kernel_rfl) ?_
  repeat (any_goals (first | go_big_quiet_step ((fail)) | fail))
  refine wpQuiet_nil ?_
  intro w5 hw'
  have hb5 := class_below hw'
  clear hw'
  go_wp2_with fail
  go_ret
  exact ⟨rfl, bel_call hW2 hb5⟩

/-- A step of the script. -/
structure OpB where
  k : Int
  t : Int
  l : Int
  b : Int
  r : Int
  row : Int
  col : Int
def ScrB (w : World) (A : Option Addr) (len : Nat) (ops : Nat → OpB) : Prop := ∀ i, i < len → ∃ b off, A = some ⟨b, off, none⟩ ∧ b < w.heap.size ∧ (w.cell? ⟨b, off + i * 7, none⟩ = some (.int .i64 (ops i).k) ∧ w.cell? ⟨b, off + i * 7 + 1, none⟩ = some (.int .i64 (ops i).t) ∧ w.cell? ⟨b, off + i * 7 + 2, none⟩ = some (.int .i64 (ops i).l) ∧ w.cell? ⟨b, off + i * 7 + 3, none⟩ = some (.int .i64 (ops i).b) ∧ w.cell? ⟨b, off + i * 7 + 4, none⟩ = some (.int .i64 (ops i).r) ∧ w.cell? ⟨b, off + i * 7 + 5, none⟩ = some (.int .i64 (ops i).row) ∧ w.cell? ⟨b, off + i * 7 + 6, none⟩ = some (.int .i64 (ops i).col)) ∧ rngP ⟨(ops i).row, (ops i).col, (ops i).t, (ops i).l, (ops i).b, (ops i).r⟩
theorem ovs_len (row col : Int) : ∀ (L : List Pr) (out : List Cl), (L.foldl (ovS row col) out).length ≤ out.length + L.length
  | [], out => by simp
  | p :: L, out => by
    have h := ovs_len row col L (ovS row col out p)
    have h2 : (ovS row col out p).length ≤ out.length + 1 := by
      unfold ovS
      split
      · simp
      · omega
    rw [List.foldl_cons, List.length_cons]
    omega

theorem Blk.same {w : World} {g : Nat} {t u : TypeId} {cs ds : Array Value} (h : Blk w g t cs) (k : Blk w g u ds) : t = u := by
  have h1 : w.heap[g]? = some (.cells cs t (0, 0)) := h
  have h2 : w.heap[g]? = some (.cells ds u (0, 0)) := k
  rw [h2] at h1
  injection h1 with h1
  injection h1 with _ h1 _
  exact h1.symm
theorem RP.top {w : World} {yb B : Nat} {Ls : List Pr} (h : RP w yb B Ls) : Blk w yb 28 #[.slice h.1.choose Ls.length h.1.choose_spec.choose] := h.1.choose_spec.choose_spec.top
theorem RP.ne {w : World} {yb B : Nat} {Ls : List Pr} (h : RP w yb B Ls) {z : Nat} {cs : Array Value} (k : Blk w z 35 cs) : z ≠ yb := by
  rintro rfl
  exact absurd (Blk.same k h.top) (of_decide_eq_false (by kernel_rfl))
set_option maxHeartbeats 6400000 in
set_option maxRecDepth 100000 in
theorem bandsScript_walk (A : Option Addr) (len cap : Nat) (ops : Nat → OpB) (w : World) (hS : ScrB w A len ops) (hlen : len * 56 ≤ 140737488351232) :
    Calls Try.prog 3 #[.slice A len cap] w fun e w' => e = .returned (.bool true) ∧ Below w.heap.size w w' := by
  go_enter Try.func3, Try.ntmps3
  go_wp2_with fail
  refine (pb_new _).mono ?_
  rintro e w1 ⟨bb, O0, rfl, hP0, hO0, hb1⟩
  have hW0 := bel_alloc hb1 (.cells #[.slice none 0 0] 28)
  have hPa := hP0.alloc (.cells #[.slice none 0 0] 28)
  have hy := Blk.new w1 rfl 28 #[.slice none 0 0]
  have hy1 : w.heap.size ≤ w1.heap.size := hb1.size
  go_wp2_with fail
  generalize hwz : w1.alloc (.cells #[.slice none 0 0] 28) = w2 at hW0 hPa hy ⊢
  generalize w1.heap.size = yb at hy hy1 ⊢
  clear hwz hP0 hb1
  have hRa : RP w2 yb (yb + 1) [] := ⟨⟨none, 0, hy, OL.nil _ _⟩, hy.lt⟩
  refine (known_any _).mono ?_
  rintro e w5 ⟨rfl, hb5⟩
  replace hW0 := bel_call hW0 hb5
  replace hPa := hPa.below hb5
  replace hRa := hRa.below hb5
  clear hb5 hy
  go_wp2_with fail
  go_loopw [5] (fun s5 wr => ∃ (k : Nat) (O : Nat → Prop) (Ls : List Pr), k ≤ len ∧ s5 = .int .i64 k ∧ PB wr bb k O Ls ∧ RP wr yb (yb + 1) Ls ∧ Ls.length ≤ k ∧ (∀ z, O z → w.heap.size ≤ z) ∧ Below w.heap.size w wr) (fun s5 _ => len - (intOf s5).toNat)
  case atStart => exact ⟨0, O0, [], Nat.zero_le _, rfl, hPa, hRa, Nat.le_refl _, hO0, hW0⟩
  case round =>
    obtain ⟨k, O, Ls, hk, rfl, hP, hR, hLk, hO, hW⟩ := hrel
    clear hPa hRa hO0 hW0
    by_cases hkl : k < len
    · obtain ⟨b1, o1, hA1, hb1, ⟨c0, c1, c2, c3, c4, c5, c6⟩, hr⟩ := hS k hkl
      subst hA1
      replace c0 := (hW.cell hb1).trans c0
      replace c1 := (hW.cell hb1).trans c1
      replace c2 := (hW.cell hb1).trans c2
      replace c3 := (hW.cell hb1).trans c3
      replace c4 := (hW.cell hb1).trans c4
      replace c5 := (hW.cell hb1).trans c5
      replace c6 := (hW.cell hb1).trans c6
      generalize (ops k).k = k0 at *
      generalize (ops k).t = t at *
      generalize (ops k).l = l at *
      generalize (ops k).b = b at *
      generalize (ops k).r = r at *
      generalize (ops k).row = row at *
      generalize (ops k).col = col at *
      have HR := Lib.hid hr
      have i0 : (0 : Int) ≤ (k : Int) := by omega
      have i1 : (k : Int) < (len : Int) := by omega
      clear hr
      go_upto_region 11 with fail
      have ko := Blk.new wr rfl 35 #[.int .i64 k0, .int .i64 t, .int .i64 l, .int .i64 b, .int .i64 r, .int .i64 row, .int .i64 col]
      replace hW := bel_alloc hW (.cells #[.int .i64 k0, .int .i64 t, .int .i64 l, .int .i64 b, .int .i64 r, .int .i64 row, .int .i64 col] 35)
      replace hP := hP.alloc (.cells #[.int .i64 k0, .int .i64 t, .int .i64 l, .int .i64 b, .int .i64 r, .int .i64 row, .int .i64 col] 35)
      replace hR := hR.below (bel_alloc (bel_refl wr) (.cells #[.int .i64 k0, .int .i64 t, .int .i64 l, .int .i64 b, .int .i64 r, .int .i64 row, .int .i64 col] 35))
      generalize hwz : wr.alloc (.cells #[.int .i64 k0, .int .i64 t, .int .i64 l, .int .i64 b, .int .i64 r, .int .i64 row, .int .i64 col] 35) = w3 at ko hW hP hR ⊢
      generalize wr.heap.size = gop at ko ⊢
      clear hwz c0 c1 c2 c3 c4 c5 c6
      by_cases h0 : k0 = 0
      · subst h0
        go_wp2_with fail
        obtain ⟨S, hSS⟩ : ∃ S : World → Prop, S = fun w' => Blk w' gop 35 #[.int .i64 0, .int .i64 t, .int .i64 l, .int .i64 b, .int .i64 r, .int .i64 row, .int .i64 col] ∧ Blk w' gop 35 #[.int .i64 0, .int .i64 t, .int .i64 l, .int .i64 b, .int .i64 r, .int .i64 row, .int .i64 col] := ⟨_, rfl⟩
        have q0 := fun x => (held_of hSS x).1.rd
        have q1 := fun x => (held_of hSS x).2.rd
        have HSS := Lib.hid hSS
        have hS0 : S w3.drew := held_in HSS.out ⟨ko.drew, ko.drew⟩
        haveI : Nonempty (Held S) := ⟨⟨_, hS0⟩⟩
        clear hSS
        refine wp_region_tree (S := S) 14 (.q 0 <| .q 1 <| .q 2 <| .q 3 <| .q 4 <| .q 6 <| .q 7 <| .q 8 <| .q 9 <| .q 10 <| .a 5 <| .a 11 <| .q 12 <| .q 13 <| .done) [] (by kernel_rfl) (by kernel_rfl) hS0 ?_
        repeat (refine tree_q (by rfl) (by rfl) (fun K hK => ?_); go_simp; refine hK _ ?_; clear hK K)
        refine tree_a (by rfl) (by rfl) (fun K hK => ?_)
        go_simp
        refine (pb_add bb k O Ls t l b r row col _ (hP.below (bel_drew (bel_refl w3))) HR.out (by omega)).mono ?_
        rintro e w4 ⟨O4, rfl, hP4, hF4, hO4⟩
        have hR4 := (hR.below (bel_drew (bel_refl w3))).frmO (hP.below (bel_drew (bel_refl w3))) hF4
        have ko4 := hF4.blk (ko.drew) (fun hz => absurd ((hP.below (bel_drew (bel_refl w3))).ty hz ko.drew) (of_decide_eq_false (by kernel_rfl)))
        have hW4 := hF4.bel (bel_drew hW) (fun z hz => hO z hz)
        refine hK _ _ (held_in HSS.out ⟨ko4, ko4⟩) ?_
        clear hK K
        repeat (refine tree_q (by rfl) (by rfl) (fun K hK => ?_); go_simp; refine hK _ ?_; clear hK K)
        refine tree_a (by rfl) (by rfl) (fun K hK => ?_)
        go_simp
        refine (rp_add yb (yb + 1) Ls t l b r row col _ hR4 hP.srt (by omega)).mono ?_
        rintro e w5 ⟨rfl, hR5, hF5⟩
        have hP5 := hP4.frmY hR4 hF5
        have ko5 := hF5.blk ko4 (fun e => hR4.ne ko4 e)
        have hW5 := hF5.bel hW4 (fun z hz => by omega)
        refine hK _ _ (held_in HSS.out ⟨ko5, ko5⟩) ?_
        clear hK K
        repeat (refine tree_q (by rfl) (by rfl) (fun K hK => ?_); go_simp; refine hK _ ?_; clear hK K)
        refine tree_nil ?_
        clear q0 q1 hS0 HSS
        go_wp2_with fail
        go_roundw
        case rel => exact ⟨k + 1, O4, addP ⟨row, col, t, l, b, r⟩ Ls, by omega, by go_num, hP5, hR5, by have := addP_len ⟨row, col, t, l, b, r⟩ Ls; omega, fun z hz => (hO4 z hz).elim (hO z) (fun h => Nat.le_trans hW.size h), hW5⟩
        case measure => simp [intOf]; omega
      by_cases h1 : k0 = 1
      · subst h1
        clear h0
        go_wp2_with fail
        obtain ⟨S, hSS⟩ : ∃ S : World → Prop, S = fun w' => Blk w' gop 35 #[.int .i64 1, .int .i64 t, .int .i64 l, .int .i64 b, .int .i64 r, .int .i64 row, .int .i64 col] ∧ Blk w' gop 35 #[.int .i64 1, .int .i64 t, .int .i64 l, .int .i64 b, .int .i64 r, .int .i64 row, .int .i64 col] := ⟨_, rfl⟩
        have q0 := fun x => (held_of hSS x).1.rd
        have q1 := fun x => (held_of hSS x).2.rd
        have HSS := Lib.hid hSS
        have hS0 : S w3.drew := held_in HSS.out ⟨ko.drew, ko.drew⟩
        haveI : Nonempty (Held S) := ⟨⟨_, hS0⟩⟩
        clear hSS
        refine wp_region_tree (S := S) 14 (.q 0 <| .q 1 <| .q 2 <| .q 3 <| .q 4 <| .q 6 <| .q 7 <| .q 8 <| .q 9 <| .q 10 <| .a 5 <| .a 11 <| .q 12 <| .q 13 <| .done) [] (by kernel_rfl) (by kernel_rfl) hS0 ?_
        repeat (refine tree_q (by rfl) (by rfl) (fun K hK => ?_); go_simp; refine hK _ ?_; clear hK K)
        refine tree_a (by rfl) (by rfl) (fun K hK => ?_)
        go_simp
        refine (pb_rem bb k O Ls t l b r row col _ (hP.below (bel_drew (bel_refl w3))) HR.out).mono ?_
        rintro e w4 ⟨O4, rfl, hP4, hF4, hO4⟩
        have hR4 := (hR.below (bel_drew (bel_refl w3))).frmO (hP.below (bel_drew (bel_refl w3))) hF4
        have ko4 := hF4.blk (ko.drew) (fun hz => absurd ((hP.below (bel_drew (bel_refl w3))).ty hz ko.drew) (of_decide_eq_false (by kernel_rfl)))
        have hW4 := hF4.bel (bel_drew hW) (fun z hz => hO z hz)
        refine hK _ _ (held_in HSS.out ⟨ko4, ko4⟩) ?_
        clear hK K
        repeat (refine tree_q (by rfl) (by rfl) (fun K hK => ?_); go_simp; refine hK _ ?_; clear hK K)
        refine tree_a (by rfl) (by rfl) (fun K hK => ?_)
        go_simp
        refine (rp_rem yb (yb + 1) Ls t l b r row col _ hR4 (by omega)).mono ?_
        rintro e w5 ⟨rfl, hR5, hF5⟩
        have hP5 := hP4.frmY hR4 hF5
        have ko5 := hF5.blk ko4 (fun e => hR4.ne ko4 e)
        have hW5 := hF5.bel hW4 (fun z hz => by omega)
        refine hK _ _ (held_in HSS.out ⟨ko5, ko5⟩) ?_
        clear hK K
        repeat (refine tree_q (by rfl) (by rfl) (fun K hK => ?_); go_simp; refine hK _ ?_; clear hK K)
        refine tree_nil ?_
        clear q0 q1 hS0 HSS
        go_wp2_with fail
        go_roundw
        case rel => exact ⟨k + 1, O4, Ls.erase ⟨row, col, t, l, b, r⟩, by omega, by go_num, hP5.mono (Nat.le_succ _), hR5, Nat.le_trans (List.length_erase_le) (by omega), fun z hz => hO z (hO4 z hz), hW5⟩
        case measure => simp [intOf]; omega
      by_cases h2 : k0 = 2
      · subst h2
        clear h0 h1
        go_wp2_with fail
        obtain ⟨S, hSS⟩ : ∃ S : World → Prop, S = fun w' => Blk w' gop 35 #[.int .i64 2, .int .i64 t, .int .i64 l, .int .i64 b, .int .i64 r, .int .i64 row, .int .i64 col] ∧ Blk w' gop 35 #[.int .i64 2, .int .i64 t, .int .i64 l, .int .i64 b, .int .i64 r, .int .i64 row, .int .i64 col] := ⟨_, rfl⟩
        have q0 := fun x => (held_of hSS x).1.rd
        have q1 := fun x => (held_of hSS x).2.rd
        have HSS := Lib.hid hSS
        have hS0 : S w3.drew := held_in HSS.out ⟨ko.drew, ko.drew⟩
        haveI : Nonempty (Held S) := ⟨⟨_, hS0⟩⟩
        clear hSS
        refine wp_region_tree (S := S) 10 (.q 0 <| .q 1 <| .q 2 <| .q 4 <| .q 5 <| .q 6 <| .a 3 <| .a 7 <| .a 8 <| .q 9 <| .done) [] (by kernel_rfl) (by kernel_rfl) hS0 ?_
        repeat (refine tree_q (by rfl) (by rfl) (fun K hK => ?_); go_simp; refine hK _ ?_; clear hK K)
        refine tree_a (by rfl) (by rfl) (fun K hK => ?_)
        go_simp
        refine (pb_over bb k O Ls row col _ (hP.below (bel_drew (bel_refl w3))) HR.out.2.2.1 (by omega)).mono ?_
        rintro e w4 ⟨A4, rfl, hl4, ho4, hb4⟩
        have hB4 := bel_call (bel_drew (bel_refl w3)) hb4
        refine hK _ _ (held_in HSS.out ⟨ko.below hB4, ko.below hB4⟩) ?_
        clear hK K
        repeat (refine tree_q (by rfl) (by rfl) (fun K hK => ?_); go_simp; refine hK _ ?_; clear hK K)
        refine tree_a (by rfl) (by rfl) (fun K hK => ?_)
        go_simp
        obtain ⟨⟨A0, cap0, hR0⟩, hR1⟩ := hR.below hB4
        refine (rover_any yb (yb + 1) row col Ls A0 cap0 _ hR0 (by omega)).mono ?_
        rintro e w5 ⟨v5, rfl, hl5, hb5⟩
        have hB5 := bel_call hB4 hb5
        obtain ⟨A5, c5, rfl, _, _, hl5, hA5⟩ := hl5.see
        refine hK _ _ (held_in HSS.out ⟨ko.below hB5, ko.below hB5⟩) ?_
        clear hK K
        repeat (refine tree_q (by rfl) (by rfl) (fun K hK => ?_); go_simp; refine hK _ ?_; clear hK K)
        refine tree_a (by rfl) (by rfl) (fun K hK => ?_)
        go_simp
        refine (cells_any (ovs row col Ls) A4 A5 (ovs row col Ls).length c5 _ (hl4.below hb5) (ho4.imp id (fun ⟨g, cur, h1, h2, h3, h4⟩ => ⟨g, cur, h1, h3.below hb5, h4⟩)) hl5 (fun b' off g h1 h2 => ?_) (by have := ovs_len row col Ls []; unfold ovs; simp at this; omega)).mono ?_
        · rcases ho4 with h | ⟨g4, cur, h3, h4, h5, _⟩
          · rw [h] at h2; cases h2
          · rw [h3] at h2
            injection h2 with h2
            injection h2 with h2 _ _
            rcases hA5 with h | ⟨g5, h6, h7, _⟩
            · rw [h] at h1; cases h1
            · rw [h6] at h1
              injection h1 with h1
              injection h1 with h1 _ _
              have := h5.lt
              omega
        rintro e w6 ⟨rfl, hF6⟩
        have hB6 : Below w3.heap.size w3 w6 := hF6.bel hB5 (fun z hz => by
          rcases ho4 with h | ⟨g4, cur, h3, h4, h5, _⟩
          · rw [h] at hz; cases hz
          · rw [h3] at hz
            injection hz with hz
            injection hz with hz _ _
            have : w3.heap.size ≤ g4 := h4
            omega)
        refine hK _ _ (held_in HSS.out ⟨ko.below hB6, ko.below hB6⟩) ?_
        clear hK K
        repeat (refine tree_q (by rfl) (by rfl) (fun K hK => ?_); go_simp; refine hK _ ?_; clear hK K)
        refine tree_nil ?_
        clear q0 q1 hS0 HSS
        go_wp2_with fail
        go_roundw
        case rel => exact ⟨k + 1, O, Ls, by omega, by go_num, (hP.below hB6).mono (Nat.le_succ _), hR.below hB6, by omega, hO, bel_call hW hB6⟩
        case measure => simp [intOf]; omega
      by_cases h3 : k0 = 3
      · subst h3
        clear h0 h1 h2
        go_wp2_with fail
        obtain ⟨⟨A0, cap0, hR0⟩, hR1⟩ := hR
        have hR : RP w3 yb (yb + 1) Ls := ⟨⟨A0, cap0, hR0⟩, hR1⟩
        obtain ⟨S, hSS⟩ : ∃ S : World → Prop, S = fun w' => Blk w' yb 28 #[.slice A0 Ls.length cap0] ∧ Blk w' yb 28 #[.slice A0 Ls.length cap0] := ⟨_, rfl⟩
        have l0 := fun x => ((held_of hSS x).1).lt
        have q0 := fun x => (held_of hSS x).1.rd
        have q1 := fun x => (held_of hSS x).2.rd
        have HSS := Lib.hid hSS
        have hS0 : S w3.drew := held_in HSS.out ⟨hR0.top.drew, hR0.top.drew⟩
        haveI : Nonempty (Held S) := ⟨⟨_, hS0⟩⟩
        clear hSS
        refine wp_region_tree (S := S) 8 (.q 0 <| .q 2 <| .q 3 <| .q 4 <| .q 5 <| .a 1 <| .a 6 <| .q 7 <| .done) [] (by kernel_rfl) (by kernel_rfl) hS0 ?_
        repeat (refine tree_q (by rfl) (by rfl) (fun K hK => ?_); go_simp; refine hK _ ?_; clear hK K)
        refine tree_a (by rfl) (by rfl) (fun K hK => ?_)
        go_simp
        refine (pb_all bb k O Ls _ (hP.below (bel_drew (bel_refl w3))) (by omega)).mono ?_
        rintro e w4 ⟨A4, rfl, hl4, ho4, hb4⟩
        have hB4 := bel_call (bel_drew (bel_refl w3)) hb4
        refine hK _ _ (held_in HSS.out ⟨hR0.top.below hB4, hR0.top.below hB4⟩) ?_
        clear hK K
        repeat (refine tree_q (by rfl) (by rfl) (fun K hK => ?_); go_simp; refine hK _ ?_; clear hK K)
        refine tree_a (by rfl) (by rfl) (fun K hK => ?_)
        go_simp
        refine (edges_any Ls A4 A0 Ls.length cap0 _ hl4 (ho4.imp id (fun ⟨g, cur, h1, h2, h3, h4⟩ => ⟨g, cur, h1, h3, h4⟩)) (((rb_see hR0.lst).2.1).below hB4) (fun b' off g h1 h2 => ?_) (by omega)).mono ?_
        · rcases ho4 with h | ⟨g4, cur, h3, h4, h5, _⟩
          · rw [h] at h2; cases h2
          · rw [h3] at h2
            injection h2 with h2
            injection h2 with h2 _ _
            rcases (rb_see hR0.lst).2.2 with h | ⟨g5, h6, _, h7⟩
            · rw [h] at h1; cases h1
            · rw [h6] at h1
              injection h1 with h1
              injection h1 with h1 _ _
              have : w3.heap.size ≤ g4 := h4
              omega
        rintro e w6 ⟨rfl, hF6⟩
        have hB6 : Below w3.heap.size w3 w6 := hF6.bel hB4 (fun z hz => by
          rcases ho4 with h | ⟨g4, cur, h3, h4, h5, _⟩
          · rw [h] at hz; cases hz
          · rw [h3] at hz
            injection hz with hz
            injection hz with hz _ _
            have : w3.heap.size ≤ g4 := h4
            omega)
        refine hK _ _ (held_in HSS.out ⟨hR0.top.below hB6, hR0.top.below hB6⟩) ?_
        clear hK K
        repeat (refine tree_q (by rfl) (by rfl) (fun K hK => ?_); go_simp; refine hK _ ?_; clear hK K)
        refine tree_nil ?_
        clear l0 q0 q1 hS0 HSS
        go_wp2_with fail
        go_roundw
        case rel => exact ⟨k + 1, O, Ls, by omega, by go_num, (hP.below hB6).mono (Nat.le_succ _), hR.below hB6, by omega, hO, bel_call hW hB6⟩
        case measure => simp [intOf]; omega
      have b0 : (k0 == 0) = false := by rw [beq_eq_false_iff_ne]; exact h0
      have b1 : (k0 == 1) = false := by rw [beq_eq_false_iff_ne]; exact h1
      have b2 : (k0 == 2) = false := by rw [beq_eq_false_iff_ne]; exact h2
      have b3 : (k0 == 3) = false := by rw [beq_eq_false_iff_ne]; exact h3
      clear h0 h1 h2 h3
      go_wp2_with fail
      go_roundw
      case rel => exact ⟨k + 1, O, Ls, by omega, by go_num, hP.mono (Nat.le_succ _), hR, by omega, hO, hW⟩
      case measure => simp [intOf]; omega
    · obtain rfl : k = len := by omega
      have i1 : ¬ ((k : Int) < (k : Int)) := by omega
      go_wp2_with fail
      generalize hwz : wr = w3 at hP hR hW ⊢
      clear hwz
      obtain ⟨⟨A0, cap0, hR0⟩, hR1⟩ := hR
      have hR : RP w3 yb (yb + 1) Ls := ⟨⟨A0, cap0, hR0⟩, hR1⟩
      obtain ⟨S, hSS⟩ : ∃ S : World → Prop, S = fun w' => Blk w' yb 28 #[.slice A0 Ls.length cap0] ∧ Blk w' yb 28 #[.slice A0 Ls.length cap0] := ⟨_, rfl⟩
      have l0 := fun x => ((held_of hSS x).1).lt
      have q0 := fun x => (held_of hSS x).1.rd
      have q1 := fun x => (held_of hSS x).2.rd
      have HSS := Lib.hid hSS
      have hS0 : S w3.drew := held_in HSS.out ⟨hR0.top.drew, hR0.top.drew⟩
      haveI : Nonempty (Held S) := ⟨⟨_, hS0⟩⟩
      clear hSS
      refine wp_region_tree (S := S) 8 (.q 0 <| .q 2 <| .q 3 <| .q 4 <| .q 5 <| .a 1 <| .a 6 <| .q 7 <| .done) [] (by kernel_rfl) (by kernel_rfl) hS0 ?_
      repeat (refine tree_q (by rfl) (by rfl) (fun K hK => ?_); go_simp; refine hK _ ?_; clear hK K)
      refine tree_a (by rfl) (by rfl) (fun K hK => ?_)
      go_simp
      refine (pb_all bb k O Ls _ (hP.below (bel_drew (bel_refl w3))) (by omega)).mono ?_
      rintro e w4 ⟨A4, rfl, hl4, ho4, hb4⟩
      have hB4 := bel_call (bel_drew (bel_refl w3)) hb4
      refine hK _ _ (held_in HSS.out ⟨hR0.top.below hB4, hR0.top.below hB4⟩) ?_
      clear hK K
      repeat (refine tree_q (by rfl) (by rfl) (fun K hK => ?_); go_simp; refine hK _ ?_; clear hK K)
      refine tree_a (by rfl) (by rfl) (fun K hK => ?_)
      go_simp
      refine (edges_any Ls A4 A0 Ls.length cap0 _ hl4 (ho4.imp id (fun ⟨g, cur, h1, h2, h3, h4⟩ => ⟨g, cur, h1, h3, h4⟩)) (((rb_see hR0.lst).2.1).below hB4) (fun b' off g h1 h2 => ?_) (by omega)).mono ?_
      · rcases ho4 with h | ⟨g4, cur, h3, h4, h5, _⟩
        · rw [h] at h2; cases h2
        · rw [h3] at h2
          injection h2 with h2
          injection h2 with h2 _ _
          rcases (rb_see hR0.lst).2.2 with h | ⟨g5, h6, _, h7⟩
          · rw [h] at h1; cases h1
          · rw [h6] at h1
            injection h1 with h1
            injection h1 with h1 _ _
            have : w3.heap.size ≤ g4 := h4
            omega
      rintro e w6 ⟨rfl, hF6⟩
      have hB6 : Below w3.heap.size w3 w6 := hF6.bel hB4 (fun z hz => by
        rcases ho4 with h | ⟨g4, cur, h3, h4, h5, _⟩
        · rw [h] at hz; cases hz
        · rw [h3] at hz
          injection hz with hz
          injection hz with hz _ _
          have : w3.heap.size ≤ g4 := h4
          omega)
      refine hK _ _ (held_in HSS.out ⟨hR0.top.below hB6, hR0.top.below hB6⟩) ?_
      clear hK K
      repeat (refine tree_q (by rfl) (by rfl) (fun K hK => ?_); go_simp; refine hK _ ?_; clear hK K)
      refine tree_nil ?_
      clear l0 q0 q1 hS0 HSS
      go_wp2_with fail
      go_ret
      exact ⟨rfl, bel_call hW hB6⟩
end Go.Proofs.Ytgmojgchbgmkeaa
